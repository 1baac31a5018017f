import Derived.Test.YtfoplfpbjajljaaGreatDoorY1
import Derived.Test.YtfoplfpbjajljaaGreatDoorW2
import Derived.Test.YtfoplfpbjajljaaGreatDoorFwF
import Derived.Test.YtfoplfpbjajljaaGreatDoorW3
set_option linter.unusedVariables false
set_option linter.unusedSimpArgs false
namespace Go.Proofs.YtfoplfpbjajljaaGreatDoor
set_option maxRecDepth 100000
set_option maxHeartbeats 16000000
def mixL (A B : List Int) (x : Nat) : List Int := B.take x ++ A.drop x
theorem mixL_zero (A B : List Int) : mixL A B 0 = A := by simp [mixL]
theorem mixL_all {A B : List Int} (h : A.length = B.length) : mixL A B A.length = B := by simp [mixL, h]
theorem mixL_len {A B : List Int} (h : A.length = B.length) (x : Nat) : (mixL A B x).length = A.length := by
 unfold mixL
 rw [List.length_append, List.length_take, List.length_drop]; omega
theorem mixL_get {A B : List Int} (h : A.length = B.length) {x : Nat} (hx : x < A.length) : (mixL A B x).getD x 0 = A.getD x 0 := by
 unfold mixL
 rw [gD, List.getElem?_append_right (by rw [List.length_take]; omega), List.length_take, List.getElem?_drop, gD]
 congr 2
 omega
theorem mixL_set {A B : List Int} (h : A.length = B.length) {x : Nat} (hx : x < A.length) : (mixL A B x).set x (B.getD x 0) = mixL A B (x + 1) := by
 unfold mixL
 have hl : (B.take x).length = x := by rw [List.length_take]; omega
 rw [List.set_append_right _ _ (by omega), hl, Nat.sub_self, List.drop_eq_getElem_cons hx, List.set_cons_zero, List.take_succ_eq_append_getElem (by omega), getD_elem 0 (by omega), List.append_assoc]
 rfl
theorem addR0 (A B D : List Int) (c d k : Int) (hA : A.length = B.length) (hD : D.length = A.length) (hl : A.length ≤ 1000000) (hB : ∀ x, x < A.length → B.getD x 0 = A.getD x 0 + k * D.getD x 0)
  (hk : -100 ≤ k ∧ k ≤ 100) (ha : ∀ x, x < A.length → -1000000 ≤ A.getD x 0 ∧ A.getD x 0 ≤ 1000000) (hd : ∀ x, x < A.length → -1000000 ≤ k * D.getD x 0 ∧ k * D.getD x 0 ≤ 1000000) (hc : -1000000 ≤ c ∧ c ≤ 1000000) (hkd : -1000000 ≤ k * d ∧ k * d ≤ 1000000) :
  PSpec Tryz.prog 86 [.agg [.sl 0 encI A, .int .i64 c], .agg [.sl 0 encI D, .int .i64 d], .int .i64 k] (fun u => u = .agg [.sl 0 encI B, .int .i64 (c + k * d)]) := by
 refine PSpec.intro tt_ok mx_ok Tryz.func86 rfl (by decide) ?_; (conv => whnf)
 refine boxP rfl ?_
 conv => whnf
 refine boxP rfl ?_
 conv => whnf
 apply once6
 case k =>
  intro o1 o2 o3 o4 o5 o6
  refine drawC [1, 2, 4, 5, 6, 7, 8, 11] (by decide +kernel) ?_
  conv => whnf
  repeat' first
   |exact True.intro
   |(refine And.intro ?_ ?_ <;> conv => whnf)
   |(refine bldI 0 encI [] rfl ?_; conv => whnf)
   |(refine leakN ?_; conv => whnf)
   |(refine arI trivial (by clear o1 o2 o3 o4 o5 o6; omega) ?_; conv => whnf)
   |(refine appI A rfl (by clear o1 o2 o3 o4 o5 o6; simp only [List.length_nil]; omega) ?_; conv => whnf)
   |with_reducible exact o1
   |with_reducible exact o2
   |with_reducible exact o3
   |with_reducible exact o4
   |with_reducible exact o5
   |with_reducible exact o6
   |fail
 all_goals try first
  |exact True.intro
  |exact True
 all_goals
  refine WPc.loopF tt_ok mx_ok (fun x : Nat => x ≤ A.length) (fun x => [(9, .top), (8, .int .i64 (x : Int))]) (fun x => [(6, .box 102 [.nilsl, .int .i64 0]), (7, .box 102 [.row 12 A.length 1, .int .i64 (c + k * d)]), (12, .row 3 0 encI (mixL A B x))]) (fun x => A.length - x) 0 (Nat.zero_le _) ?_; conv => whnf
  refine ⟨by rw [mixL_zero]; exact Sub.by_ [(6, .old 6), (7, .old 7), (12, .old 12)] _ 400 rfl (auto_) (auto_), ?_⟩
  rintro x hx
  conv => whnf
  refine cmpI ?_ ?_ <;> (intro h1; conv => whnf)
  ·have hxl : x < A.length := by omega
   have e2 : -1000000 ≤ (mixL A B x).getD (x : Int).toNat 0 ∧ (mixL A B x).getD (x : Int).toNat 0 ≤ 1000000 := by rw [tN, mixL_get hA hxl]; exact ha x hxl
   have e3 : -1000000 ≤ k * D.getD (x : Int).toNat 0 ∧ k * D.getD (x : Int).toNat 0 ≤ 1000000 := by rw [tN]; exact hd x hxl
   have e5 : (mixL A B x).set (x : Int).toNat ((mixL A B x).getD (x : Int).toNat 0 + k * D.getD (x : Int).toNat 0) = mixL A B (x + 1) := by
    rw [tN, mixL_get hA hxl, ← hB x hxl, mixL_set hA hxl]
   refine dI ?_
   conv => whnf
   repeat' ((first|refine nI ?_|refine aI ?_|refine tI ?_|refine fI ?_|fail);conv => whnf)
   refine rowSetI ((mixL A B x).getD (x : Int).toNat 0 + k * D.getD (x : Int).toNat 0) rfl ?_
   rw [e5]
   conv => whnf
   repeat' ((first|refine nI ?_|refine aI ?_|refine tI ?_|refine fI ?_|fail);conv => whnf)
   refine ⟨x + 1, ?_, by omega, by dsimp only; omega⟩
   exact Sub.by_ [(6, .old 6), (7, .old 7), (12, .old 12)] _ 400 rfl (auto_) (auto_)
  ·obtain rfl : x = A.length := by omega
   rw [mixL_all hA]
   exact ⟨rfl, rfl⟩
theorem addD (vars : List Vb) (a b : Co) (c d k : Int) (hl : vars.length ≤ 1000000) (hk : -100 ≤ k ∧ k ≤ 100) (ha : cwB 1000000 a) (hb : cwB 10000 b) (hc : -1000000 ≤ c ∧ c ≤ 1000000) (hd : -10000 ≤ d ∧ d ≤ 10000) :
  PSpec Tryz.prog 86 [.agg [.sl 0 encI (vars.map a), .int .i64 c], .agg [.sl 0 encI (vars.map b), .int .i64 d], .int .i64 k] (fun u => u = .agg [.sl 0 encI (vars.map (scC a k b)), .int .i64 (c + k * d)]) := by
 have hm : ∀ y : Int, -10000 ≤ y ∧ y ≤ 10000 → -1000000 ≤ k * y ∧ k * y ≤ 1000000 := fun y hy => by
  have := mul_ab (A := 100) (B := 10000) hk hy
  omega
 refine addR0 (vars.map a) (vars.map (scC a k b)) (vars.map b) c d k (by simp) (by simp) (by simpa using hl) (fun x hx => ?_) hk (fun x hx => ?_) (fun x hx => ?_) hc (hm d hd)
 ·rw [List.length_map] at hx
  rw [row_get _ hx, row_get _ hx, row_get _ hx]; rfl
 ·rw [List.length_map] at hx
  rw [row_get _ hx]; exact ha _
 ·rw [List.length_map] at hx
  rw [row_get _ hx]; exact hm _ (hb _)
abbrev dbC (p : Pro) (vars : List Vb) (lr nr : Nat) : List AV := [.str p.name, .int .i64 p.topology, .sl t0 encT p.states, .sl t0 encT p.messages, .sl t0 encT p.values, .int .i64 p.fault, .sl lin0 encLin p.resilience, .sl 0 encI p.initial, .sl 0 encI p.leader, .sl rul0 encR p.rules, .sl vb0 encVb vars, .row lr nr 2]
abbrev dbL (p : Pro) (vars : List Vb) (rows : List Row) : List (Nat × Blk) := [(200, .box 98 (dbC p vars 201 rows.length)), (201, .row 102 row0 encRw rows)]
theorem drowG (p : Pro) (vars : List Vb) (rows : List Row) (hv : vars.length ≤ 1000000) :
  Spec Tryz.prog 88 [.ptr 200 0] (Mem.ofL (dbL p vars rows)) (fun u M => u = .agg [.sl 0 encI (vars.map zC), .int .i64 0] ∧ M = Mem.ofL (dbL p vars rows)) := by
 rw [← zero_row]
 refine Spec.idn rfl (auto_) ?_
 refine Spec.introL tt_ok mx_ok (dbL p vars rows) Tryz.func88 rfl (by decide) ?_
 conv => whnf
 refine mkI 0 encI 0 rfl (by dsimp only; omega) ?_
 conv => whnf
 exact ⟨rfl, (auto_)⟩
def idD : LMap := [(200, .old 200), (201, .old 201)]
theorem drowP (p : Pro) (vars : List Vb) (rows : List Row) (hv : vars.length ≤ 1000000) :
  Spec Tryz.prog 88 [.ptr 200 0] (Mem.ofL (dbL p vars rows)) (fun u M => u = .agg [.row 221 vars.length 1, .int .i64 0] ∧ M = Mem.ofL (dbL p vars rows ++ [(221, .row 3 0 encI (vars.map zC))])) := by
 rw [← zero_row]
 refine Spec.renorm 400 (R := fun u M => u = .agg [.row 8 vars.length 1, .int .i64 0] ∧ memR (idD ++ [(221, .old 8)]) 400 M (dbL p vars rows ++ [(221, .row 3 0 encI (List.replicate vars.length (0 : Int)))])) ?_ ?_
 case refine_2 =>
  rintro u M ⟨rfl, hM⟩
  exact ⟨idD ++ [(221, .old 8)], _, _, rfl, hM, (auto_), rfl, rfl⟩
 refine Spec.intro tt_ok mx_ok (dbL p vars rows) Tryz.func88 rfl (by decide) ?_
 conv => whnf
 refine mkI 0 encI 0 rfl (by dsimp only; omega) ?_
 conv => whnf
 exact ⟨rfl, (auto_)⟩
theorem dlinP (p : Pro) (q : Prp) (sch : List Int) (rows : List Row) (hq : propE p q = 0) (hs : schB (thrL p.rules).length sch) (l : Lin) :
  Spec Tryz.prog 85 [.ptr 200 0, .agg (encLin l)] (Mem.ofL (dbL p (varL p q sch) rows)) (fun u M => u = .agg [.sl 0 encI ((varL p q sch).map (linC l)), .int .i64 l.c] ∧ M = Mem.ofL (dbL p (varL p q sch) rows)) := by
 have hv := varL_len hq hs
 have hr := lin_row (sch := sch) hq l
 have h3 : 3 ≤ (varL p q sch).length := by unfold varL; rw [List.length_append, List.length_append]; simp only [List.length_cons, List.length_nil]; omega
 have hz : (varL p q sch).map zC = [0, 0, 0] ++ List.replicate ((varL p q sch).length - 3) 0 := by
  rw [← zero_row, show ([0, 0, 0] : List Int) = List.replicate 3 0 from rfl, List.replicate_append_replicate]
  congr 1; omega
 have hrow := drowP p (varL p q sch) rows (by omega)
 rw [hr]
 rw [hz] at hrow
 generalize varL p q sch = vars at *
 generalize List.replicate (vars.length - 3) (0 : Int) = Z at *
 refine Spec.idn rfl (auto_) ?_
 refine Spec.introL tt_ok mx_ok (dbL p vars rows) Tryz.func85 rfl (by decide) ?_
 simp only [padK_eq]
 rw [show Tryz.f85.ntmps = 27 from rfl]
 simp only [codeK]
 simp only [opsK]
 rw [stepK_eq]
 simp only [gv, opnds, List.map_cons, List.map_nil, semK]
 conv => whnf
 refine boxP rfl ?_
 conv => whnf
 refine Spec.call idD (dbL p vars rows) 400 rfl (auto_) (auto_) hrow ?_
 rintro u M' ⟨rfl, rfl⟩
 refine ⟨idD ++ [(221, .old 221)], dbL p vars rows ++ [(221, .row 3 0 encI ([0, 0, 0] ++ Z))], .agg [.row 221 vars.length 1, .int .i64 0], rfl, (auto_), (auto_), ?_⟩
 conv => whnf
 refine nI ?_
 conv => whnf
 refine rowSetI l.n rfl ?_
 conv => whnf
 refine nI ?_
 conv => whnf
 refine rowSetI l.t rfl ?_
 conv => whnf
 refine nI ?_
 conv => whnf
 refine rowSetI l.f rfl ?_
 conv => whnf
 exact ⟨rfl, (auto_)⟩
theorem dstaP (p : Pro) (vars : List Vb) (rows : List Row) (hv : vars.length ≤ 1000000) (kind : Int) :
  Spec Tryz.prog 87 [.ptr 200 0, .int .i64 kind] (Mem.ofL (dbL p vars rows)) (fun u M => u = .agg [.sl 0 encI (vars.map (stD kind)), .int .i64 0] ∧ M = Mem.ofL (dbL p vars rows)) := by
 have hrow := drowP p vars rows hv
 have hl : (vars.map zC).length = (vars.map (stD kind)).length := by simp
 have hA : (vars.map zC).length = vars.length := by simp
 have hg : ∀ x : Nat, x < vars.length → (vars.map zC).getD x 0 = 0 := fun x hx => by rw [row_get _ hx]; rfl
 have hB : ∀ x : Nat, x < vars.length → (vars.map (stD kind)).getD x 0 = if (vars.getD (x : Int).toNat vb0).kind = kind then 1 else 0 := fun x hx => by rw [row_get _ hx, tN]; rfl
 generalize vars.map (stD kind) = B at *
 generalize vars.map zC = A at *
 refine Spec.idn rfl (auto_) ?_
 refine Spec.introL tt_ok mx_ok (dbL p vars rows) Tryz.func87 rfl (by decide) ?_
 conv => whnf
 refine Spec.call idD (dbL p vars rows) 400 rfl (auto_) (auto_) hrow ?_
 rintro u M' ⟨rfl, rfl⟩
 refine ⟨idD ++ [(221, .old 221)], dbL p vars rows ++ [(221, .row 3 0 encI A)], .agg [.row 221 vars.length 1, .int .i64 0], rfl, (auto_), (auto_), ?_⟩
 conv => whnf
 refine WPc.loopF tt_ok mx_ok (fun x : Nat => x ≤ vars.length) (fun x => [(6, .int .i64 (x : Int))]) (fun x => dbL p vars rows ++ [(4, .box 102 [.nilsl, .int .i64 0]), (5, .box 102 [.row 221 vars.length 1, .int .i64 0]), (221, .row 3 0 encI (mixL A B x))]) (fun x => vars.length - x) 0 (Nat.zero_le _) ?_; conv => whnf
 refine ⟨by rw [mixL_zero]; exact Sub.by_ (idD ++ [(4, .old 4), (5, .old 5), (221, .old 221)]) _ 400 rfl (auto_) (auto_), ?_⟩
 rintro x hx
 conv => whnf
 refine cmpI ?_ ?_ <;> (intro h1; conv => whnf)
 ·have hxl : x < vars.length := by omega
  have e5 := mixL_set hl (show x < A.length by omega)
  have e4 := mixL_get hl (show x < A.length by omega)
  have e6 := mixL_len hl x
  rw [hB x hxl] at e5
  repeat' ((first|refine nI ?_|refine aI ?_|refine tI ?_|refine fI ?_|fail);conv => whnf)
  refine cmpI ?_ ?_ <;> (intro h2; conv => whnf)
  ·rw [if_pos h2] at e5
   repeat' ((first|refine nI ?_|refine aI ?_|refine tI ?_|refine fI ?_|fail);conv => whnf)
   refine rowSetI 1 rfl ?_
   rw [tN, e5]
   conv => whnf
   repeat' ((first|refine nI ?_|refine aI ?_|refine tI ?_|refine fI ?_|fail);conv => whnf)
   refine ⟨x + 1, ?_, by omega, by dsimp only; omega⟩
   exact Sub.by_ (idD ++ [(4, .old 4), (5, .old 5), (221, .old 221)]) _ 400 rfl (auto_) (auto_)
  ·rw [if_neg h2, ← hg x hxl, ← e4, gD, gL (by omega), Option.getD_some, List.set_getElem_self] at e5
   repeat' ((first|refine nI ?_|refine aI ?_|refine tI ?_|refine fI ?_|fail);conv => whnf)
   refine ⟨x + 1, ?_, by omega, by dsimp only; omega⟩
   dsimp only
   rw [← e5]
   exact Sub.by_ (idD ++ [(4, .old 4), (5, .old 5), (221, .old 221)]) _ 400 rfl (auto_) (auto_)
 ·obtain rfl : x = vars.length := by omega
  rw [show vars.length = A.length from hA.symm, mixL_all hl]
  conv => whnf
  exact ⟨rfl, (auto_)⟩
theorem set_zero {L : List Int} {x : Nat} (h : L.getD x 0 = 0) (hx : x < L.length) : L.set x 0 = L := by
 have : L[x] = 0 := by rw [← getD_elem 0 hx]; exact h
 rw [← this, List.set_getElem_self]
theorem daftP (p : Pro) (vars : List Vb) (rows : List Row) (hv : vars.length ≤ 1000000) (hrl : p.rules.length ≤ 1000) (hin : ∀ x, x < vars.length → (vars.getD x vb0).kind = 5 → 0 ≤ (vars.getD x vb0).idx ∧ (vars.getD x vb0).idx < p.rules.length) (seg : Nat) (state : Int) :
  Spec Tryz.prog 90 [.ptr 200 0, .int .i64 (seg : Int), .int .i64 state, .bool false] (Mem.ofL (dbL p vars rows)) (fun u M => u = .agg [.sl 0 encI (vars.map (aftD p.rules 3 5 state seg)), .int .i64 0] ∧ M = Mem.ofL (dbL p vars rows)) := by
 have hrow := drowP p vars rows hv
 have hl : (vars.map zC).length = (vars.map (aftD p.rules 3 5 state seg)).length := by simp
 have hA : (vars.map zC).length = vars.length := by simp
 have hg : ∀ x : Nat, x < vars.length → (vars.map zC).getD x 0 = 0 := fun x hx => by rw [row_get _ hx]; rfl
 have hB : ∀ x : Nat, x < vars.length → (vars.map (aftD p.rules 3 5 state seg)).getD x 0 = aftD p.rules 3 5 state seg (vars.getD x vb0) := fun x hx => by rw [row_get _ hx]
 generalize vars.map (aftD p.rules 3 5 state seg) = B at *
 generalize vars.map zC = A at *
 refine Spec.idn rfl (auto_) ?_
 refine Spec.introL tt_ok mx_ok (dbL p vars rows) Tryz.func90 rfl (by decide) ?_
 conv => whnf
 refine Spec.call idD (dbL p vars rows) 400 rfl (auto_) (auto_) hrow ?_
 rintro u M' ⟨rfl, rfl⟩
 refine ⟨idD ++ [(221, .old 221)], dbL p vars rows ++ [(221, .row 3 0 encI A)], .agg [.row 221 vars.length 1, .int .i64 0], rfl, (auto_), (auto_), ?_⟩
 conv => whnf
 refine WPc.loopF tt_ok mx_ok (fun x : Nat => x ≤ vars.length) (fun x => [(12, .int .i64 (x : Int))]) (fun x => dbL p vars rows ++ [(8, .box 102 [.nilsl, .int .i64 0]), (11, .box 102 [.row 221 vars.length 1, .int .i64 0]), (221, .row 3 0 encI (mixL A B x))]) (fun x => vars.length - x) 0 (Nat.zero_le _) ?_; conv => whnf
 refine ⟨by rw [mixL_zero]; exact Sub.by_ (idD ++ [(8, .old 8), (11, .old 11), (221, .old 221)]) _ 400 rfl (auto_) (auto_), ?_⟩
 rintro x hx
 conv => whnf
 refine cmpI ?_ ?_ <;> (intro h1; conv => whnf)
 ·have hxl : x < vars.length := by omega
  have e5 := mixL_set hl (show x < A.length by omega)
  have e4 := mixL_get hl (show x < A.length by omega)
  have e6 := mixL_len hl x
  have e0 := set_zero (L := mixL A B x) (x := x) (by rw [e4]; exact hg x hxl) (by omega)
  have hinx := hin x hxl
  rw [hB x hxl] at e5
  clear e4 hB hg hin
  refine nI ?_
  rw [tN]
  generalize vars.getD x vb0 = v at *
  by_cases k1 : v.kind = 3
  ·by_cases k2 : v.idx = state
   ·conv => whnf
    have hv' : aftD p.rules 3 5 state seg v = 1 := by
     unfold aftD
     (repeat' split) <;> omega
    repeat' ((first|refine nI ?_|refine aI ?_|refine tI ?_|refine fI ?_|fail);conv => whnf)
    refine rowSetI 1 rfl ?_
    conv => whnf
    repeat' ((first|refine nI ?_|refine aI ?_|refine tI ?_|refine fI ?_|fail);conv => whnf)
    refine dI ?_
    conv => whnf
    repeat' ((first|refine nI ?_|refine aI ?_|refine tI ?_|refine fI ?_|fail);conv => whnf)
    refine dI ?_
    conv => whnf
    repeat' ((first|refine nI ?_|refine aI ?_|refine tI ?_|refine fI ?_|fail);conv => whnf)
    have e6 : ((mixL A B x).set (x : Int).toNat 1) = mixL A B (x + 1) := by rw [tN, ← e5, hv']
    refine ⟨x + 1, ?_, by omega, by dsimp only; omega⟩
    dsimp only
    rw [← e6]
    exact Sub.by_ (idD ++ [(8, .old 8), (11, .old 11), (221, .old 221)]) _ 400 rfl (auto_) (auto_)
   ·conv => whnf
    have hv' : aftD p.rules 3 5 state seg v = 0 := by
     unfold aftD
     (repeat' split) <;> omega
    repeat' ((first|refine nI ?_|refine aI ?_|refine tI ?_|refine fI ?_|fail);conv => whnf)
    refine dI ?_
    conv => whnf
    repeat' ((first|refine nI ?_|refine aI ?_|refine tI ?_|refine fI ?_|fail);conv => whnf)
    refine dI ?_
    conv => whnf
    repeat' ((first|refine nI ?_|refine aI ?_|refine tI ?_|refine fI ?_|fail);conv => whnf)
    have e6 : (mixL A B x) = mixL A B (x + 1) := by rw [← e5, hv', e0]
    refine ⟨x + 1, ?_, by omega, by dsimp only; omega⟩
    dsimp only
    rw [← e6]
    exact Sub.by_ (idD ++ [(8, .old 8), (11, .old 11), (221, .old 221)]) _ 400 rfl (auto_) (auto_)
  ·by_cases k3 : v.kind = 5
   ·have hi := hinx k3
    by_cases k4 : v.seg ≤ seg
    ·by_cases k5 : (p.rules.getD v.idx.toNat rul0).dst = state
     ·by_cases k6 : (p.rules.getD v.idx.toNat rul0).src = state
      ·conv => whnf
       have hv' : aftD p.rules 3 5 state seg v = -1 := by
        unfold aftD
        (repeat' split) <;> omega
       repeat' ((first|refine nI ?_|refine aI ?_|refine tI ?_|refine fI ?_|fail);conv => whnf)
       refine dI ?_
       conv => whnf
       repeat' ((first|refine nI ?_|refine aI ?_|refine tI ?_|refine fI ?_|fail);conv => whnf)
       refine rowSetI 1 rfl ?_
       conv => whnf
       repeat' ((first|refine nI ?_|refine aI ?_|refine tI ?_|refine fI ?_|fail);conv => whnf)
       refine dI ?_
       conv => whnf
       repeat' ((first|refine nI ?_|refine aI ?_|refine tI ?_|refine fI ?_|fail);conv => whnf)
       refine rowSetI (-1) rfl ?_
       conv => whnf
       repeat' ((first|refine nI ?_|refine aI ?_|refine tI ?_|refine fI ?_|fail);conv => whnf)
       have e6 : (((mixL A B x).set (x : Int).toNat 1).set (x : Int).toNat (-1)) = mixL A B (x + 1) := by rw [tN, List.set_set, ← e5, hv']
       refine ⟨x + 1, ?_, by omega, by dsimp only; omega⟩
       dsimp only
       rw [← e6]
       exact Sub.by_ (idD ++ [(8, .old 8), (11, .old 11), (221, .old 221)]) _ 400 rfl (auto_) (auto_)
      ·conv => whnf
       have hv' : aftD p.rules 3 5 state seg v = 1 := by
        unfold aftD
        (repeat' split) <;> omega
       repeat' ((first|refine nI ?_|refine aI ?_|refine tI ?_|refine fI ?_|fail);conv => whnf)
       refine dI ?_
       conv => whnf
       repeat' ((first|refine nI ?_|refine aI ?_|refine tI ?_|refine fI ?_|fail);conv => whnf)
       refine rowSetI 1 rfl ?_
       conv => whnf
       repeat' ((first|refine nI ?_|refine aI ?_|refine tI ?_|refine fI ?_|fail);conv => whnf)
       refine dI ?_
       conv => whnf
       repeat' ((first|refine nI ?_|refine aI ?_|refine tI ?_|refine fI ?_|fail);conv => whnf)
       have e6 : ((mixL A B x).set (x : Int).toNat 1) = mixL A B (x + 1) := by rw [tN, ← e5, hv']
       refine ⟨x + 1, ?_, by omega, by dsimp only; omega⟩
       dsimp only
       rw [← e6]
       exact Sub.by_ (idD ++ [(8, .old 8), (11, .old 11), (221, .old 221)]) _ 400 rfl (auto_) (auto_)
     ·by_cases k6 : (p.rules.getD v.idx.toNat rul0).src = state
      ·conv => whnf
       have hv' : aftD p.rules 3 5 state seg v = -1 := by
        unfold aftD
        (repeat' split) <;> omega
       repeat' ((first|refine nI ?_|refine aI ?_|refine tI ?_|refine fI ?_|fail);conv => whnf)
       refine dI ?_
       conv => whnf
       repeat' ((first|refine nI ?_|refine aI ?_|refine tI ?_|refine fI ?_|fail);conv => whnf)
       refine dI ?_
       conv => whnf
       repeat' ((first|refine nI ?_|refine aI ?_|refine tI ?_|refine fI ?_|fail);conv => whnf)
       refine rowSetI (-1) rfl ?_
       conv => whnf
       repeat' ((first|refine nI ?_|refine aI ?_|refine tI ?_|refine fI ?_|fail);conv => whnf)
       have e6 : ((mixL A B x).set (x : Int).toNat (-1)) = mixL A B (x + 1) := by rw [tN, ← e5, hv']
       refine ⟨x + 1, ?_, by omega, by dsimp only; omega⟩
       dsimp only
       rw [← e6]
       exact Sub.by_ (idD ++ [(8, .old 8), (11, .old 11), (221, .old 221)]) _ 400 rfl (auto_) (auto_)
      ·conv => whnf
       have hv' : aftD p.rules 3 5 state seg v = 0 := by
        unfold aftD
        (repeat' split) <;> omega
       repeat' ((first|refine nI ?_|refine aI ?_|refine tI ?_|refine fI ?_|fail);conv => whnf)
       refine dI ?_
       conv => whnf
       repeat' ((first|refine nI ?_|refine aI ?_|refine tI ?_|refine fI ?_|fail);conv => whnf)
       refine dI ?_
       conv => whnf
       repeat' ((first|refine nI ?_|refine aI ?_|refine tI ?_|refine fI ?_|fail);conv => whnf)
       have e6 : (mixL A B x) = mixL A B (x + 1) := by rw [← e5, hv', e0]
       refine ⟨x + 1, ?_, by omega, by dsimp only; omega⟩
       dsimp only
       rw [← e6]
       exact Sub.by_ (idD ++ [(8, .old 8), (11, .old 11), (221, .old 221)]) _ 400 rfl (auto_) (auto_)
    ·conv => whnf
     have hv' : aftD p.rules 3 5 state seg v = 0 := by
      unfold aftD
      (repeat' split) <;> omega
     repeat' ((first|refine nI ?_|refine aI ?_|refine tI ?_|refine fI ?_|fail);conv => whnf)
     refine dI ?_
     conv => whnf
     repeat' ((first|refine nI ?_|refine aI ?_|refine tI ?_|refine fI ?_|fail);conv => whnf)
     refine dI ?_
     conv => whnf
     repeat' ((first|refine nI ?_|refine aI ?_|refine tI ?_|refine fI ?_|fail);conv => whnf)
     have e6 : (mixL A B x) = mixL A B (x + 1) := by rw [← e5, hv', e0]
     refine ⟨x + 1, ?_, by omega, by dsimp only; omega⟩
     dsimp only
     rw [← e6]
     exact Sub.by_ (idD ++ [(8, .old 8), (11, .old 11), (221, .old 221)]) _ 400 rfl (auto_) (auto_)
   ·conv => whnf
    have hv' : aftD p.rules 3 5 state seg v = 0 := by
     unfold aftD
     (repeat' split) <;> omega
    repeat' ((first|refine nI ?_|refine aI ?_|refine tI ?_|refine fI ?_|fail);conv => whnf)
    refine dI ?_
    conv => whnf
    repeat' ((first|refine nI ?_|refine aI ?_|refine tI ?_|refine fI ?_|fail);conv => whnf)
    refine dI ?_
    conv => whnf
    repeat' ((first|refine nI ?_|refine aI ?_|refine tI ?_|refine fI ?_|fail);conv => whnf)
    have e6 : (mixL A B x) = mixL A B (x + 1) := by rw [← e5, hv', e0]
    refine ⟨x + 1, ?_, by omega, by dsimp only; omega⟩
    dsimp only
    rw [← e6]
    exact Sub.by_ (idD ++ [(8, .old 8), (11, .old 11), (221, .old 221)]) _ 400 rfl (auto_) (auto_)
 ·obtain rfl : x = vars.length := by omega
  rw [show vars.length = A.length from hA.symm, mixL_all hl]
  conv => whnf
  exact ⟨rfl, (auto_)⟩
theorem daftQ (p : Pro) (vars : List Vb) (rows : List Row) (hv : vars.length ≤ 1000000) (hrl : p.rules.length ≤ 1000) (hin : ∀ x, x < vars.length → (vars.getD x vb0).kind = 6 → 0 ≤ (vars.getD x vb0).idx ∧ (vars.getD x vb0).idx < p.rules.length) (seg : Nat) (state : Int) :
  Spec Tryz.prog 90 [.ptr 200 0, .int .i64 (seg : Int), .int .i64 state, .bool true] (Mem.ofL (dbL p vars rows)) (fun u M => u = .agg [.sl 0 encI (vars.map (aftD p.rules 4 6 state seg)), .int .i64 0] ∧ M = Mem.ofL (dbL p vars rows)) := by
 have hrow := drowP p vars rows hv
 have hl : (vars.map zC).length = (vars.map (aftD p.rules 4 6 state seg)).length := by simp
 have hA : (vars.map zC).length = vars.length := by simp
 have hg : ∀ x : Nat, x < vars.length → (vars.map zC).getD x 0 = 0 := fun x hx => by rw [row_get _ hx]; rfl
 have hB : ∀ x : Nat, x < vars.length → (vars.map (aftD p.rules 4 6 state seg)).getD x 0 = aftD p.rules 4 6 state seg (vars.getD x vb0) := fun x hx => by rw [row_get _ hx]
 generalize vars.map (aftD p.rules 4 6 state seg) = B at *
 generalize vars.map zC = A at *
 refine Spec.idn rfl (auto_) ?_
 refine Spec.introL tt_ok mx_ok (dbL p vars rows) Tryz.func90 rfl (by decide) ?_
 conv => whnf
 refine Spec.call idD (dbL p vars rows) 400 rfl (auto_) (auto_) hrow ?_
 rintro u M' ⟨rfl, rfl⟩
 refine ⟨idD ++ [(221, .old 221)], dbL p vars rows ++ [(221, .row 3 0 encI A)], .agg [.row 221 vars.length 1, .int .i64 0], rfl, (auto_), (auto_), ?_⟩
 conv => whnf
 refine WPc.loopF tt_ok mx_ok (fun x : Nat => x ≤ vars.length) (fun x => [(12, .int .i64 (x : Int))]) (fun x => dbL p vars rows ++ [(8, .box 102 [.nilsl, .int .i64 0]), (11, .box 102 [.row 221 vars.length 1, .int .i64 0]), (221, .row 3 0 encI (mixL A B x))]) (fun x => vars.length - x) 0 (Nat.zero_le _) ?_; conv => whnf
 refine ⟨by rw [mixL_zero]; exact Sub.by_ (idD ++ [(8, .old 8), (11, .old 11), (221, .old 221)]) _ 400 rfl (auto_) (auto_), ?_⟩
 rintro x hx
 conv => whnf
 refine cmpI ?_ ?_ <;> (intro h1; conv => whnf)
 ·have hxl : x < vars.length := by omega
  have e5 := mixL_set hl (show x < A.length by omega)
  have e4 := mixL_get hl (show x < A.length by omega)
  have e6 := mixL_len hl x
  have e0 := set_zero (L := mixL A B x) (x := x) (by rw [e4]; exact hg x hxl) (by omega)
  have hinx := hin x hxl
  rw [hB x hxl] at e5
  clear e4 hB hg hin
  refine nI ?_
  rw [tN]
  generalize vars.getD x vb0 = v at *
  by_cases k1 : v.kind = 4
  ·by_cases k2 : v.idx = state
   ·conv => whnf
    have hv' : aftD p.rules 4 6 state seg v = 1 := by
     unfold aftD
     (repeat' split) <;> omega
    repeat' ((first|refine nI ?_|refine aI ?_|refine tI ?_|refine fI ?_|fail);conv => whnf)
    refine rowSetI 1 rfl ?_
    conv => whnf
    repeat' ((first|refine nI ?_|refine aI ?_|refine tI ?_|refine fI ?_|fail);conv => whnf)
    refine dI ?_
    conv => whnf
    repeat' ((first|refine nI ?_|refine aI ?_|refine tI ?_|refine fI ?_|fail);conv => whnf)
    refine dI ?_
    conv => whnf
    repeat' ((first|refine nI ?_|refine aI ?_|refine tI ?_|refine fI ?_|fail);conv => whnf)
    have e6 : ((mixL A B x).set (x : Int).toNat 1) = mixL A B (x + 1) := by rw [tN, ← e5, hv']
    refine ⟨x + 1, ?_, by omega, by dsimp only; omega⟩
    dsimp only
    rw [← e6]
    exact Sub.by_ (idD ++ [(8, .old 8), (11, .old 11), (221, .old 221)]) _ 400 rfl (auto_) (auto_)
   ·conv => whnf
    have hv' : aftD p.rules 4 6 state seg v = 0 := by
     unfold aftD
     (repeat' split) <;> omega
    repeat' ((first|refine nI ?_|refine aI ?_|refine tI ?_|refine fI ?_|fail);conv => whnf)
    refine dI ?_
    conv => whnf
    repeat' ((first|refine nI ?_|refine aI ?_|refine tI ?_|refine fI ?_|fail);conv => whnf)
    refine dI ?_
    conv => whnf
    repeat' ((first|refine nI ?_|refine aI ?_|refine tI ?_|refine fI ?_|fail);conv => whnf)
    have e6 : (mixL A B x) = mixL A B (x + 1) := by rw [← e5, hv', e0]
    refine ⟨x + 1, ?_, by omega, by dsimp only; omega⟩
    dsimp only
    rw [← e6]
    exact Sub.by_ (idD ++ [(8, .old 8), (11, .old 11), (221, .old 221)]) _ 400 rfl (auto_) (auto_)
  ·by_cases k3 : v.kind = 6
   ·have hi := hinx k3
    by_cases k4 : v.seg ≤ seg
    ·by_cases k5 : (p.rules.getD v.idx.toNat rul0).dst = state
     ·by_cases k6 : (p.rules.getD v.idx.toNat rul0).src = state
      ·conv => whnf
       have hv' : aftD p.rules 4 6 state seg v = -1 := by
        unfold aftD
        (repeat' split) <;> omega
       repeat' ((first|refine nI ?_|refine aI ?_|refine tI ?_|refine fI ?_|fail);conv => whnf)
       refine dI ?_
       conv => whnf
       repeat' ((first|refine nI ?_|refine aI ?_|refine tI ?_|refine fI ?_|fail);conv => whnf)
       refine rowSetI 1 rfl ?_
       conv => whnf
       repeat' ((first|refine nI ?_|refine aI ?_|refine tI ?_|refine fI ?_|fail);conv => whnf)
       refine dI ?_
       conv => whnf
       repeat' ((first|refine nI ?_|refine aI ?_|refine tI ?_|refine fI ?_|fail);conv => whnf)
       refine rowSetI (-1) rfl ?_
       conv => whnf
       repeat' ((first|refine nI ?_|refine aI ?_|refine tI ?_|refine fI ?_|fail);conv => whnf)
       have e6 : (((mixL A B x).set (x : Int).toNat 1).set (x : Int).toNat (-1)) = mixL A B (x + 1) := by rw [tN, List.set_set, ← e5, hv']
       refine ⟨x + 1, ?_, by omega, by dsimp only; omega⟩
       dsimp only
       rw [← e6]
       exact Sub.by_ (idD ++ [(8, .old 8), (11, .old 11), (221, .old 221)]) _ 400 rfl (auto_) (auto_)
      ·conv => whnf
       have hv' : aftD p.rules 4 6 state seg v = 1 := by
        unfold aftD
        (repeat' split) <;> omega
       repeat' ((first|refine nI ?_|refine aI ?_|refine tI ?_|refine fI ?_|fail);conv => whnf)
       refine dI ?_
       conv => whnf
       repeat' ((first|refine nI ?_|refine aI ?_|refine tI ?_|refine fI ?_|fail);conv => whnf)
       refine rowSetI 1 rfl ?_
       conv => whnf
       repeat' ((first|refine nI ?_|refine aI ?_|refine tI ?_|refine fI ?_|fail);conv => whnf)
       refine dI ?_
       conv => whnf
       repeat' ((first|refine nI ?_|refine aI ?_|refine tI ?_|refine fI ?_|fail);conv => whnf)
       have e6 : ((mixL A B x).set (x : Int).toNat 1) = mixL A B (x + 1) := by rw [tN, ← e5, hv']
       refine ⟨x + 1, ?_, by omega, by dsimp only; omega⟩
       dsimp only
       rw [← e6]
       exact Sub.by_ (idD ++ [(8, .old 8), (11, .old 11), (221, .old 221)]) _ 400 rfl (auto_) (auto_)
     ·by_cases k6 : (p.rules.getD v.idx.toNat rul0).src = state
      ·conv => whnf
       have hv' : aftD p.rules 4 6 state seg v = -1 := by
        unfold aftD
        (repeat' split) <;> omega
       repeat' ((first|refine nI ?_|refine aI ?_|refine tI ?_|refine fI ?_|fail);conv => whnf)
       refine dI ?_
       conv => whnf
       repeat' ((first|refine nI ?_|refine aI ?_|refine tI ?_|refine fI ?_|fail);conv => whnf)
       refine dI ?_
       conv => whnf
       repeat' ((first|refine nI ?_|refine aI ?_|refine tI ?_|refine fI ?_|fail);conv => whnf)
       refine rowSetI (-1) rfl ?_
       conv => whnf
       repeat' ((first|refine nI ?_|refine aI ?_|refine tI ?_|refine fI ?_|fail);conv => whnf)
       have e6 : ((mixL A B x).set (x : Int).toNat (-1)) = mixL A B (x + 1) := by rw [tN, ← e5, hv']
       refine ⟨x + 1, ?_, by omega, by dsimp only; omega⟩
       dsimp only
       rw [← e6]
       exact Sub.by_ (idD ++ [(8, .old 8), (11, .old 11), (221, .old 221)]) _ 400 rfl (auto_) (auto_)
      ·conv => whnf
       have hv' : aftD p.rules 4 6 state seg v = 0 := by
        unfold aftD
        (repeat' split) <;> omega
       repeat' ((first|refine nI ?_|refine aI ?_|refine tI ?_|refine fI ?_|fail);conv => whnf)
       refine dI ?_
       conv => whnf
       repeat' ((first|refine nI ?_|refine aI ?_|refine tI ?_|refine fI ?_|fail);conv => whnf)
       refine dI ?_
       conv => whnf
       repeat' ((first|refine nI ?_|refine aI ?_|refine tI ?_|refine fI ?_|fail);conv => whnf)
       have e6 : (mixL A B x) = mixL A B (x + 1) := by rw [← e5, hv', e0]
       refine ⟨x + 1, ?_, by omega, by dsimp only; omega⟩
       dsimp only
       rw [← e6]
       exact Sub.by_ (idD ++ [(8, .old 8), (11, .old 11), (221, .old 221)]) _ 400 rfl (auto_) (auto_)
    ·conv => whnf
     have hv' : aftD p.rules 4 6 state seg v = 0 := by
      unfold aftD
      (repeat' split) <;> omega
     repeat' ((first|refine nI ?_|refine aI ?_|refine tI ?_|refine fI ?_|fail);conv => whnf)
     refine dI ?_
     conv => whnf
     repeat' ((first|refine nI ?_|refine aI ?_|refine tI ?_|refine fI ?_|fail);conv => whnf)
     refine dI ?_
     conv => whnf
     repeat' ((first|refine nI ?_|refine aI ?_|refine tI ?_|refine fI ?_|fail);conv => whnf)
     have e6 : (mixL A B x) = mixL A B (x + 1) := by rw [← e5, hv', e0]
     refine ⟨x + 1, ?_, by omega, by dsimp only; omega⟩
     dsimp only
     rw [← e6]
     exact Sub.by_ (idD ++ [(8, .old 8), (11, .old 11), (221, .old 221)]) _ 400 rfl (auto_) (auto_)
   ·conv => whnf
    have hv' : aftD p.rules 4 6 state seg v = 0 := by
     unfold aftD
     (repeat' split) <;> omega
    repeat' ((first|refine nI ?_|refine aI ?_|refine tI ?_|refine fI ?_|fail);conv => whnf)
    refine dI ?_
    conv => whnf
    repeat' ((first|refine nI ?_|refine aI ?_|refine tI ?_|refine fI ?_|fail);conv => whnf)
    refine dI ?_
    conv => whnf
    repeat' ((first|refine nI ?_|refine aI ?_|refine tI ?_|refine fI ?_|fail);conv => whnf)
    have e6 : (mixL A B x) = mixL A B (x + 1) := by rw [← e5, hv', e0]
    refine ⟨x + 1, ?_, by omega, by dsimp only; omega⟩
    dsimp only
    rw [← e6]
    exact Sub.by_ (idD ++ [(8, .old 8), (11, .old 11), (221, .old 221)]) _ 400 rfl (auto_) (auto_)
 ·obtain rfl : x = vars.length := by omega
  rw [show vars.length = A.length from hA.symm, mixL_all hl]
  conv => whnf
  exact ⟨rfl, (auto_)⟩
theorem dsntP (p : Pro) (vars : List Vb) (rows : List Row) (hv : vars.length ≤ 1000000) (hrl : p.rules.length ≤ 1000) (hsd : ∀ i, i < p.rules.length → (p.rules.getD i rul0).send.length ≤ 60) (hin : ∀ x, x < vars.length → (vars.getD x vb0).kind = 5 → 0 ≤ (vars.getD x vb0).idx ∧ (vars.getD x vb0).idx < p.rules.length) (message : Int) (seg : Nat) :
  Spec Tryz.prog 92 [.ptr 200 0, .int .i64 message, .int .i64 (seg : Int), .bool false] (Mem.ofL (dbL p vars rows)) (fun u M => u = .agg [.sl 0 encI (vars.map (sntD p.rules 5 message seg)), .int .i64 0] ∧ M = Mem.ofL (dbL p vars rows)) := by
 have hrow := drowP p vars rows hv
 have hl : (vars.map zC).length = (vars.map (sntD p.rules 5 message seg)).length := by simp
 have hA : (vars.map zC).length = vars.length := by simp
 have hg : ∀ x : Nat, x < vars.length → (vars.map zC).getD x 0 = 0 := fun x hx => by rw [row_get _ hx]; rfl
 have hB : ∀ x : Nat, x < vars.length → (vars.map (sntD p.rules 5 message seg)).getD x 0 = sntD p.rules 5 message seg (vars.getD x vb0) := fun x hx => by rw [row_get _ hx]
 generalize vars.map (sntD p.rules 5 message seg) = B at *
 generalize vars.map zC = A at *
 refine Spec.idn rfl (auto_) ?_
 refine Spec.introL tt_ok mx_ok (dbL p vars rows) Tryz.func92 rfl (by decide) ?_
 conv => whnf
 refine Spec.call idD (dbL p vars rows) 400 rfl (auto_) (auto_) hrow ?_
 rintro u M' ⟨rfl, rfl⟩
 refine ⟨idD ++ [(221, .old 221)], dbL p vars rows ++ [(221, .row 3 0 encI A)], .agg [.row 221 vars.length 1, .int .i64 0], rfl, (auto_), (auto_), ?_⟩
 conv => whnf
 refine WPc.loopF tt_ok mx_ok (fun x : Nat => x ≤ vars.length) (fun x => [(11, .int .i64 (x : Int))]) (fun x => dbL p vars rows ++ [(8, .box 102 [.nilsl, .int .i64 0]), (10, .box 102 [.row 221 vars.length 1, .int .i64 0]), (221, .row 3 0 encI (mixL A B x))]) (fun x => vars.length - x) 0 (Nat.zero_le _) ?_; conv => whnf
 refine ⟨by rw [mixL_zero]; exact Sub.by_ (idD ++ [(8, .old 8), (10, .old 10), (221, .old 221)]) _ 400 rfl (auto_) (auto_), ?_⟩
 rintro x hx
 conv => whnf
 refine cmpI ?_ ?_ <;> (intro h1; conv => whnf)
 ·have hxl : x < vars.length := by omega
  have e5 := mixL_set hl (show x < A.length by omega)
  have e4 := mixL_get hl (show x < A.length by omega)
  have e6 := mixL_len hl x
  have e0 := set_zero (L := mixL A B x) (x := x) (by rw [e4]; exact hg x hxl) (by omega)
  have hinx := hin x hxl
  rw [hB x hxl] at e5
  clear e4 hB hg hin
  refine nI ?_
  rw [tN]
  generalize vars.getD x vb0 = v at *
  by_cases k3 : v.kind = 5
  ·by_cases k4 : v.seg < seg
   ·conv => whnf
    have hi := hinx k3
    have hsd1 := hsd v.idx.toNat (by omega)
    first | refine dI ?_ | refine drawO (by decide +kernel) ?_
    conv => whnf
    repeat' ((first|refine nI ?_|refine aI ?_|refine tI ?_|refine fI ?_|fail);conv => whnf)
    refine dD (inR4 (p.rules.getD v.idx.toNat rul0).send message (by omega)) (fun _ => ?_) (fun _ => ?_) <;> (conv => whnf)
    ·rename_i hm
     have hv' : sntD p.rules 5 message seg v = 1 := by
      unfold sntD
      rw [if_pos ⟨k3, k4, hm⟩]
     repeat' ((first|refine nI ?_|refine aI ?_|refine tI ?_|refine fI ?_|fail);conv => whnf)
     refine rowSetI 1 rfl ?_
     conv => whnf
     repeat' ((first|refine nI ?_|refine aI ?_|refine tI ?_|refine fI ?_|fail);conv => whnf)
     have e6 : ((mixL A B x).set (x : Int).toNat 1) = mixL A B (x + 1) := by rw [tN, ← e5, hv']
     refine ⟨x + 1, ?_, by omega, by dsimp only; omega⟩
     dsimp only
     rw [← e6]
     exact Sub.by_ (idD ++ [(8, .old 8), (10, .old 10), (221, .old 221)]) _ 400 rfl (auto_) (auto_)
    ·rename_i hm
     have hv' : sntD p.rules 5 message seg v = 0 := by
      unfold sntD
      rw [if_neg (fun h => hm h.2.2)]
     repeat' ((first|refine nI ?_|refine aI ?_|refine tI ?_|refine fI ?_|fail);conv => whnf)
     have e6 : (mixL A B x) = mixL A B (x + 1) := by rw [← e5, hv', e0]
     refine ⟨x + 1, ?_, by omega, by dsimp only; omega⟩
     dsimp only
     rw [← e6]
     exact Sub.by_ (idD ++ [(8, .old 8), (10, .old 10), (221, .old 221)]) _ 400 rfl (auto_) (auto_)
   ·conv => whnf
    have hv' : sntD p.rules 5 message seg v = 0 := by
     unfold sntD
     rw [if_neg (fun h => by omega)]
    first | refine dI ?_ | refine drawO (by decide +kernel) ?_
    conv => whnf
    repeat' ((first|refine nI ?_|refine aI ?_|refine tI ?_|refine fI ?_|fail);conv => whnf)
    have e6 : (mixL A B x) = mixL A B (x + 1) := by rw [← e5, hv', e0]
    refine ⟨x + 1, ?_, by omega, by dsimp only; omega⟩
    dsimp only
    rw [← e6]
    exact Sub.by_ (idD ++ [(8, .old 8), (10, .old 10), (221, .old 221)]) _ 400 rfl (auto_) (auto_)
  ·conv => whnf
   have hv' : sntD p.rules 5 message seg v = 0 := by
    unfold sntD
    rw [if_neg (fun h => by omega)]
   first | refine dI ?_ | refine drawO (by decide +kernel) ?_
   conv => whnf
   repeat' ((first|refine nI ?_|refine aI ?_|refine tI ?_|refine fI ?_|fail);conv => whnf)
   have e6 : (mixL A B x) = mixL A B (x + 1) := by rw [← e5, hv', e0]
   refine ⟨x + 1, ?_, by omega, by dsimp only; omega⟩
   dsimp only
   rw [← e6]
   exact Sub.by_ (idD ++ [(8, .old 8), (10, .old 10), (221, .old 221)]) _ 400 rfl (auto_) (auto_)
 ·obtain rfl : x = vars.length := by omega
  rw [show vars.length = A.length from hA.symm, mixL_all hl]
  conv => whnf
  exact ⟨rfl, (auto_)⟩
theorem dsntQ (p : Pro) (vars : List Vb) (rows : List Row) (hv : vars.length ≤ 1000000) (hrl : p.rules.length ≤ 1000) (hsd : ∀ i, i < p.rules.length → (p.rules.getD i rul0).send.length ≤ 60) (hin : ∀ x, x < vars.length → (vars.getD x vb0).kind = 6 → 0 ≤ (vars.getD x vb0).idx ∧ (vars.getD x vb0).idx < p.rules.length) (message : Int) (seg : Nat) :
  Spec Tryz.prog 92 [.ptr 200 0, .int .i64 message, .int .i64 (seg : Int), .bool true] (Mem.ofL (dbL p vars rows)) (fun u M => u = .agg [.sl 0 encI (vars.map (sntD p.rules 6 message seg)), .int .i64 0] ∧ M = Mem.ofL (dbL p vars rows)) := by
 have hrow := drowP p vars rows hv
 have hl : (vars.map zC).length = (vars.map (sntD p.rules 6 message seg)).length := by simp
 have hA : (vars.map zC).length = vars.length := by simp
 have hg : ∀ x : Nat, x < vars.length → (vars.map zC).getD x 0 = 0 := fun x hx => by rw [row_get _ hx]; rfl
 have hB : ∀ x : Nat, x < vars.length → (vars.map (sntD p.rules 6 message seg)).getD x 0 = sntD p.rules 6 message seg (vars.getD x vb0) := fun x hx => by rw [row_get _ hx]
 generalize vars.map (sntD p.rules 6 message seg) = B at *
 generalize vars.map zC = A at *
 refine Spec.idn rfl (auto_) ?_
 refine Spec.introL tt_ok mx_ok (dbL p vars rows) Tryz.func92 rfl (by decide) ?_
 conv => whnf
 refine Spec.call idD (dbL p vars rows) 400 rfl (auto_) (auto_) hrow ?_
 rintro u M' ⟨rfl, rfl⟩
 refine ⟨idD ++ [(221, .old 221)], dbL p vars rows ++ [(221, .row 3 0 encI A)], .agg [.row 221 vars.length 1, .int .i64 0], rfl, (auto_), (auto_), ?_⟩
 conv => whnf
 refine WPc.loopF tt_ok mx_ok (fun x : Nat => x ≤ vars.length) (fun x => [(11, .int .i64 (x : Int))]) (fun x => dbL p vars rows ++ [(8, .box 102 [.nilsl, .int .i64 0]), (10, .box 102 [.row 221 vars.length 1, .int .i64 0]), (221, .row 3 0 encI (mixL A B x))]) (fun x => vars.length - x) 0 (Nat.zero_le _) ?_; conv => whnf
 refine ⟨by rw [mixL_zero]; exact Sub.by_ (idD ++ [(8, .old 8), (10, .old 10), (221, .old 221)]) _ 400 rfl (auto_) (auto_), ?_⟩
 rintro x hx
 conv => whnf
 refine cmpI ?_ ?_ <;> (intro h1; conv => whnf)
 ·have hxl : x < vars.length := by omega
  have e5 := mixL_set hl (show x < A.length by omega)
  have e4 := mixL_get hl (show x < A.length by omega)
  have e6 := mixL_len hl x
  have e0 := set_zero (L := mixL A B x) (x := x) (by rw [e4]; exact hg x hxl) (by omega)
  have hinx := hin x hxl
  rw [hB x hxl] at e5
  clear e4 hB hg hin
  refine nI ?_
  rw [tN]
  generalize vars.getD x vb0 = v at *
  by_cases k3 : v.kind = 6
  ·by_cases k4 : v.seg < seg
   ·conv => whnf
    have hi := hinx k3
    have hsd1 := hsd v.idx.toNat (by omega)
    first | refine dI ?_ | refine drawO (by decide +kernel) ?_
    conv => whnf
    repeat' ((first|refine nI ?_|refine aI ?_|refine tI ?_|refine fI ?_|fail);conv => whnf)
    refine dD (inR4 (p.rules.getD v.idx.toNat rul0).send message (by omega)) (fun _ => ?_) (fun _ => ?_) <;> (conv => whnf)
    ·rename_i hm
     have hv' : sntD p.rules 6 message seg v = 1 := by
      unfold sntD
      rw [if_pos ⟨k3, k4, hm⟩]
     repeat' ((first|refine nI ?_|refine aI ?_|refine tI ?_|refine fI ?_|fail);conv => whnf)
     refine rowSetI 1 rfl ?_
     conv => whnf
     repeat' ((first|refine nI ?_|refine aI ?_|refine tI ?_|refine fI ?_|fail);conv => whnf)
     have e6 : ((mixL A B x).set (x : Int).toNat 1) = mixL A B (x + 1) := by rw [tN, ← e5, hv']
     refine ⟨x + 1, ?_, by omega, by dsimp only; omega⟩
     dsimp only
     rw [← e6]
     exact Sub.by_ (idD ++ [(8, .old 8), (10, .old 10), (221, .old 221)]) _ 400 rfl (auto_) (auto_)
    ·rename_i hm
     have hv' : sntD p.rules 6 message seg v = 0 := by
      unfold sntD
      rw [if_neg (fun h => hm h.2.2)]
     repeat' ((first|refine nI ?_|refine aI ?_|refine tI ?_|refine fI ?_|fail);conv => whnf)
     have e6 : (mixL A B x) = mixL A B (x + 1) := by rw [← e5, hv', e0]
     refine ⟨x + 1, ?_, by omega, by dsimp only; omega⟩
     dsimp only
     rw [← e6]
     exact Sub.by_ (idD ++ [(8, .old 8), (10, .old 10), (221, .old 221)]) _ 400 rfl (auto_) (auto_)
   ·conv => whnf
    have hv' : sntD p.rules 6 message seg v = 0 := by
     unfold sntD
     rw [if_neg (fun h => by omega)]
    first | refine dI ?_ | refine drawO (by decide +kernel) ?_
    conv => whnf
    repeat' ((first|refine nI ?_|refine aI ?_|refine tI ?_|refine fI ?_|fail);conv => whnf)
    have e6 : (mixL A B x) = mixL A B (x + 1) := by rw [← e5, hv', e0]
    refine ⟨x + 1, ?_, by omega, by dsimp only; omega⟩
    dsimp only
    rw [← e6]
    exact Sub.by_ (idD ++ [(8, .old 8), (10, .old 10), (221, .old 221)]) _ 400 rfl (auto_) (auto_)
  ·conv => whnf
   have hv' : sntD p.rules 6 message seg v = 0 := by
    unfold sntD
    rw [if_neg (fun h => by omega)]
   first | refine dI ?_ | refine drawO (by decide +kernel) ?_
   conv => whnf
   repeat' ((first|refine nI ?_|refine aI ?_|refine tI ?_|refine fI ?_|fail);conv => whnf)
   have e6 : (mixL A B x) = mixL A B (x + 1) := by rw [← e5, hv', e0]
   refine ⟨x + 1, ?_, by omega, by dsimp only; omega⟩
   dsimp only
   rw [← e6]
   exact Sub.by_ (idD ++ [(8, .old 8), (10, .old 10), (221, .old 221)]) _ 400 rfl (auto_) (auto_)
 ·obtain rfl : x = vars.length := by omega
  rw [show vars.length = A.length from hA.symm, mixL_all hl]
  conv => whnf
  exact ⟨rfl, (auto_)⟩
theorem addE (vars : List Vb) (a b : Co) (c d k e : Int) (he : c + k * d = e) (hl : vars.length ≤ 1000000) (hk : -100 ≤ k ∧ k ≤ 100) (ha : cwB 1000000 a) (hb : cwB 10000 b) (hc : -1000000 ≤ c ∧ c ≤ 1000000) (hd : -10000 ≤ d ∧ d ≤ 10000) :
  PSpec Tryz.prog 86 [.agg [.sl 0 encI (vars.map a), .int .i64 c], .agg [.sl 0 encI (vars.map b), .int .i64 d], .int .i64 k] (fun u => u = .agg [.sl 0 encI (vars.map (scC a k b)), .int .i64 e]) := by
 subst he
 exact addD vars a b c d k hl hk ha hb hc hd
theorem sntD_b (rs : List Rul) (fire message : Int) (seg : Nat) (v : Vb) : -2 ≤ sntD rs fire message seg v ∧ sntD rs fire message seg v ≤ 2 := by
 unfold sntD
 split <;> omega
theorem aftD_b (rs : List Rul) (start fire state : Int) (seg : Nat) (v : Vb) : -2 ≤ aftD rs start fire state seg v ∧ aftD rs start fire state seg v ≤ 2 := by
 unfold aftD
 (repeat' split) <;> omega
theorem stD_b (kind : Int) (v : Vb) : -2 ≤ stD kind v ∧ stD kind v ≤ 2 := by
 unfold stD
 split <;> omega
theorem linC_b {l : Lin} (h : bndB l) : cwB 100 (linC l) := fun v => by
 obtain ⟨h1, h2, h3, h4⟩ := h
 unfold facB at h1 h2 h3 h4
 unfold linC
 (repeat' split) <;> omega
def lF : Lin := ⟨0, 0, 0, 1⟩
def guaD (p : Pro) (g : Thr) (j : Nat) : Co :=
 scC (if whB p then scC (scC zC g.coef (sntD p.rules 5 g.message j)) g.coef (sntD p.rules 6 g.message j)
  else if p.fault = 3 then scC (scC zC g.coef (sntD p.rules 5 g.message j)) g.coef (linC lF)
  else scC zC g.coef (sntD p.rules 5 g.message j)) (-1) (linC g.bound)
def rulB (p : Pro) (vars : List Vb) : Prop := ∀ x, x < vars.length → ((vars.getD x vb0).kind = 5 ∨ (vars.getD x vb0).kind = 6) → 0 ≤ (vars.getD x vb0).idx ∧ (vars.getD x vb0).idx < p.rules.length
theorem rulB_var {p : Pro} {q : Prp} {sch : List Int} (h : propE p q = 0) : rulB p (varL p q sch) := fun x hx hk => by
 have := var_kind h (mem_getD (l := varL p q sch) vb0 hx)
 generalize (varL p q sch).getD x vb0 = v at *
 rcases this with (rfl | rfl | rfl) | h | h
 ·dsimp only at hk; omega
 ·dsimp only at hk; omega
 ·dsimp only at hk; omega
 ·omega
 ·exact h.2.2
theorem dguaP (p : Pro) (q : Prp) (sch : List Int) (rows : List Row) (hq : propE p q = 0) (hs : schB (thrL p.rules).length sch) (g : Thr) (hgc : 1 ≤ g.coef ∧ g.coef ≤ 100) (hgb : bndB g.bound) (j : Nat) :
  Spec Tryz.prog 89 [.ptr 200 0, .agg (encThr g), .int .i64 (j : Int)] (Mem.ofL (dbL p (varL p q sch) rows)) (fun u M => u = .agg [.sl 0 encI ((varL p q sch).map (guaD p g j)), .int .i64 (-g.bound.c)] ∧ M = Mem.ofL (dbL p (varL p q sch) rows)) := by
 have hV := (vlq_of hq).vld
 have wl := (vld_of hV).len
 have hv := varL_len hq hs
 have hrl : p.rules.length ≤ 1000 := by omega
 have hsd := sends_le hV
 have hru := rulB_var (sch := sch) hq
 have hin5 := fun x hx hk => hru x hx (.inl hk)
 have hin6 := fun x hx hk => hru x hx (.inr hk)
 have hrow := drowG p (varL p q sch) rows (by omega)
 have hs5 := dsntP p (varL p q sch) rows (by omega) hrl hsd hin5 g.message j
 have hs6 := dsntQ p (varL p q sch) rows (by omega) hrl hsd hin6 g.message j
 have hlF := dlinP p q sch rows hq hs lF
 have hlB := dlinP p q sch rows hq hs g.bound
 have hbc := hgb.1
 unfold facB at hbc
 have b5 : cwB 10000 (sntD p.rules 5 g.message j) := fun v => by have := sntD_b p.rules 5 g.message j v; omega
 have b6 : cwB 10000 (sntD p.rules 6 g.message j) := fun v => by have := sntD_b p.rules 6 g.message j v; omega
 have bF : cwB 10000 (linC lF) := fun v => by unfold linC lF; dsimp only; (repeat' split) <;> omega
 have bB : cwB 10000 (linC g.bound) := cwB_mono (linC_b hgb) (by omega)
 have kf : facB g.coef := by unfold facB; omega
 have c1 : cwB 1000 (scC zC g.coef (sntD p.rules 5 g.message j)) := cwB_mono (cwB_sc (cwB_z (X := 0) (by omega)) kf (sntD_b _ _ _ _)) (by omega)
 have c2 : cwB 2000 (scC (scC zC g.coef (sntD p.rules 5 g.message j)) g.coef (sntD p.rules 6 g.message j)) := cwB_mono (cwB_sc c1 kf (sntD_b _ _ _ _)) (by omega)
 have c3 : cwB 2000 (scC (scC zC g.coef (sntD p.rules 5 g.message j)) g.coef (linC lF)) := cwB_mono (cwB_sc c1 kf fun v => by unfold linC lF; dsimp only; (repeat' split) <;> omega) (by omega)
 have h1 := addE (varL p q sch) zC (sntD p.rules 5 g.message j) 0 0 g.coef 0 (by omega) (by omega) (by omega) (cwB_z (by omega)) b5 (by omega) (by omega)
 have h2 := addE (varL p q sch) _ (sntD p.rules 6 g.message j) 0 0 g.coef 0 (by omega) (by omega) (by omega) (cwB_mono c1 (by omega)) b6 (by omega) (by omega)
 have h3 := addE (varL p q sch) _ (linC lF) 0 0 g.coef 0 (by omega) (by omega) (by omega) (cwB_mono c1 (by omega)) bF (by omega) (by omega)
 have e1 := addE (varL p q sch) _ (linC g.bound) 0 g.bound.c (-1) (-g.bound.c) (by omega) (by omega) (by omega) (cwB_mono c1 (by omega)) bB (by omega) (by omega)
 have e2 := addE (varL p q sch) _ (linC g.bound) 0 g.bound.c (-1) (-g.bound.c) (by omega) (by omega) (by omega) (cwB_mono c2 (by omega)) bB (by omega) (by omega)
 have e3 := addE (varL p q sch) _ (linC g.bound) 0 g.bound.c (-1) (-g.bound.c) (by omega) (by omega) (by omega) (cwB_mono c3 (by omega)) bB (by omega) (by omega)
 have hD1 : whB p → guaD p g j = scC (scC (scC zC g.coef (sntD p.rules 5 g.message j)) g.coef (sntD p.rules 6 g.message j)) (-1) (linC g.bound) := fun h => by unfold guaD; rw [if_pos h]
 have hD2 : ¬ whB p → p.fault = 3 → guaD p g j = scC (scC (scC zC g.coef (sntD p.rules 5 g.message j)) g.coef (linC lF)) (-1) (linC g.bound) := fun h h' => by unfold guaD; rw [if_neg h, if_pos h']
 have hD3 : ¬ whB p → ¬ p.fault = 3 → guaD p g j = scC (scC zC g.coef (sntD p.rules 5 g.message j)) (-1) (linC g.bound) := fun h h' => by unfold guaD; rw [if_neg h, if_neg h']
 have hw3 : whB p → ¬ p.fault = 3 := fun h => by unfold whB at h; omega
 clear b5 b6 bF bB c1 c2 c3 hin5 hin6 hru hsd
 rw [show lF.c = 0 from rfl] at hlF
 generalize scC (scC (scC zC g.coef (sntD p.rules 5 g.message j)) g.coef (sntD p.rules 6 g.message j)) (-1) (linC g.bound) = E2 at *
 generalize scC (scC (scC zC g.coef (sntD p.rules 5 g.message j)) g.coef (linC lF)) (-1) (linC g.bound) = E3 at *
 generalize scC (scC zC g.coef (sntD p.rules 5 g.message j)) (-1) (linC g.bound) = E1 at *
 generalize scC (scC zC g.coef (sntD p.rules 5 g.message j)) g.coef (sntD p.rules 6 g.message j) = C2 at *
 generalize scC (scC zC g.coef (sntD p.rules 5 g.message j)) g.coef (linC lF) = C3 at *
 generalize scC zC g.coef (sntD p.rules 5 g.message j) = C1 at *
 generalize sntD p.rules 5 g.message j = S5 at *
 generalize sntD p.rules 6 g.message j = S6 at *
 generalize linC g.bound = LB at *
 generalize linC lF = LF at *
 generalize guaD p g j = GD at *
 generalize varL p q sch = vars at *
 refine Spec.idn rfl (auto_) ?_
 refine Spec.introL tt_ok mx_ok (dbL p vars rows) Tryz.func89 rfl (by decide) ?_
 simp only [padK_eq]
 rw [show Tryz.f89.ntmps = 51 from rfl]
 simp only [codeK]
 simp only [opsK]
 rw [stepK_eq]
 simp only [gv, opnds, List.map_cons, List.map_nil, semK]
 conv => whnf
 refine boxP rfl ?_
 conv => whnf
 apply once6
 case k =>
  intro o1 o2 o3 o4 o5 o6
  refine drawC [0, 2, 3, 4, 5, 7, 8] (by decide +kernel) ?_
  conv => whnf
  repeat' first
   |exact True.intro
   |(refine And.intro ?_ ?_ <;> conv => whnf)
   |(refine Spec.call idD (dbL p vars rows) 400 rfl (auto_) (auto_) hrow ?_; rintro u M' ⟨rfl, rfl⟩; refine ⟨idD, dbL p vars rows, .agg [.sl 0 encI (vars.map zC), .int .i64 0], rfl, (auto_), (auto_), ?_⟩; conv => whnf)
   |(refine Spec.call idD (dbL p vars rows) 400 rfl (auto_) (auto_) hs5 ?_; rintro u M' ⟨rfl, rfl⟩; refine ⟨idD, dbL p vars rows, .agg [.sl 0 encI (vars.map S5), .int .i64 0], rfl, (auto_), (auto_), ?_⟩; conv => whnf)
   |(refine oP (h1) ?_; conv => whnf)
   |with_reducible exact o1
   |with_reducible exact o2
   |with_reducible exact o3
   |with_reducible exact o4
   |with_reducible exact o5
   |with_reducible exact o6
   |fail
 all_goals try first
  |exact True.intro
  |exact True
 all_goals
  refine dC (withholdingR p) (fun _ => ?_) (fun _ => ?_) <;> (conv => whnf)
  ·rename_i hw
   repeat' ((first|refine nI ?_|refine aI ?_|refine tI ?_|refine fI ?_|fail);conv => whnf)
   apply once6
   case k =>
    intro o1 o2 o3 o4 o5 o6
    refine drawC [1, 2, 3, 4, 6, 7] (by decide +kernel) ?_
    conv => whnf
    repeat' first
     |exact True.intro
     |(refine And.intro ?_ ?_ <;> conv => whnf)
     |(refine Spec.call idD (dbL p vars rows) 400 rfl (auto_) (auto_) hs6 ?_; rintro u M' ⟨rfl, rfl⟩; refine ⟨idD, dbL p vars rows, .agg [.sl 0 encI (vars.map S6), .int .i64 0], rfl, (auto_), (auto_), ?_⟩; conv => whnf)
     |(refine oP (h2) ?_; conv => whnf)
     |with_reducible exact o1
     |with_reducible exact o2
     |with_reducible exact o3
     |with_reducible exact o4
     |with_reducible exact o5
     |with_reducible exact o6
     |fail
   all_goals try first
    |exact True.intro
    |exact True
   all_goals
    refine fI ?_ (hw3 hw)
    conv => whnf
    rw [hD1 hw]
    refine drawC [1, 2, 3] (by decide +kernel) ?_
    conv => whnf
    repeat' first
     |exact True.intro
     |(refine And.intro ?_ ?_ <;> conv => whnf)
     |(refine Spec.call idD (dbL p vars rows) 400 rfl (auto_) (auto_) hlB ?_; rintro u M' ⟨rfl, rfl⟩; refine ⟨idD, dbL p vars rows, .agg [.sl 0 encI (vars.map LB), .int .i64 g.bound.c], rfl, (auto_), (auto_), ?_⟩; conv => whnf)
     |(refine oP (e2) ?_; conv => whnf)
     |exact ⟨rfl, (auto_)⟩
     |exact rfl
     |fail
  ·rename_i hw
   refine cmpI ?_ ?_ <;> (intro hf; conv => whnf)
   ·apply once6
    case k =>
     intro o1 o2 o3 o4 o5 o6
     refine drawC [1, 2, 4, 5] (by decide +kernel) ?_
     conv => whnf
     repeat' first
      |exact True.intro
      |(refine And.intro ?_ ?_ <;> conv => whnf)
      |(refine Spec.call idD (dbL p vars rows) 400 rfl (auto_) (auto_) hlF ?_; rintro u M' ⟨rfl, rfl⟩; refine ⟨idD, dbL p vars rows, .agg [.sl 0 encI (vars.map LF), .int .i64 0], rfl, (auto_), (auto_), ?_⟩; conv => whnf)
      |(refine oP (h3) ?_; conv => whnf)
      |with_reducible exact o1
      |with_reducible exact o2
      |with_reducible exact o3
      |with_reducible exact o4
      |with_reducible exact o5
      |with_reducible exact o6
      |fail
    all_goals try first
     |exact True.intro
     |exact True
    all_goals
     rw [hD2 hw hf]
     refine drawC [1, 2, 3] (by decide +kernel) ?_
     conv => whnf
     repeat' first
      |exact True.intro
      |(refine And.intro ?_ ?_ <;> conv => whnf)
      |(refine Spec.call idD (dbL p vars rows) 400 rfl (auto_) (auto_) hlB ?_; rintro u M' ⟨rfl, rfl⟩; refine ⟨idD, dbL p vars rows, .agg [.sl 0 encI (vars.map LB), .int .i64 g.bound.c], rfl, (auto_), (auto_), ?_⟩; conv => whnf)
      |(refine oP (e3) ?_; conv => whnf)
      |exact ⟨rfl, (auto_)⟩
      |exact rfl
      |fail
   ·rw [hD3 hw hf]
    refine drawC [1, 2, 3] (by decide +kernel) ?_
    conv => whnf
    repeat' first
     |exact True.intro
     |(refine And.intro ?_ ?_ <;> conv => whnf)
     |(refine Spec.call idD (dbL p vars rows) 400 rfl (auto_) (auto_) hlB ?_; rintro u M' ⟨rfl, rfl⟩; refine ⟨idD, dbL p vars rows, .agg [.sl 0 encI (vars.map LB), .int .i64 g.bound.c], rfl, (auto_), (auto_), ?_⟩; conv => whnf)
     |(refine oP (e1) ?_; conv => whnf)
     |exact ⟨rfl, (auto_)⟩
     |exact rfl
     |fail
def amgD (p : Pro) (seg : Nat) (states : List Int) : Co := states.foldl (fun c x => scC c 1 (aftD p.rules 3 5 x seg)) zC
theorem dgatP (p : Pro) (vars : List Vb) (rows : List Row) (hv : vars.length ≤ 1000000) (hrl : p.rules.length ≤ 1000) (hru : rulB p vars) (seg : Nat) (states : List Int) (hsl : states.length ≤ 1000) (less : Int) (hls : 0 ≤ less ∧ less ≤ 1000) :
  Spec Tryz.prog 91 [.ptr 200 0, .int .i64 (seg : Int), .sl 0 encI states, .int .i64 less] (Mem.ofL (dbL p vars rows)) (fun u M => u = .agg [.sl 0 encI (vars.map (amgD p seg states)), .int .i64 (-less)] ∧ M = Mem.ofL (dbL p vars rows)) := by
 have hin5 := fun x hx hk => hru x hx (.inl hk)
 have hrow := drowG p vars rows hv
 obtain ⟨F, hF⟩ : ∃ F : Nat → Co, F = fun x => (states.take x).foldl (fun c x => scC c 1 (aftD p.rules 3 5 x seg)) zC := ⟨_, rfl⟩
 have hF0 : F 0 = zC := by rw [hF]; rfl
 have hFn : ∀ x, x < states.length → F (x + 1) = scC (F x) 1 (aftD p.rules 3 5 (states.getD (x : Int).toNat 0) seg) := fun x hx => by
  rw [hF, tN]
  dsimp only
  rw [List.take_succ_eq_append_getElem hx, List.foldl_append, getD_elem 0 hx]
  rfl
 have hFb : ∀ x, x ≤ states.length → cwB (200 * x) (F x) := by
  intro x
  induction x with
  |zero => intro _; rw [hF0]; exact cwB_z (by omega)
  |succ x ih =>
   intro hx
   rw [hFn x (by omega)]
   exact cwB_mono (cwB_sc (ih (by omega)) (by unfold facB; omega) (aftD_b _ _ _ _ _)) (by omega)
 have hFe : amgD p seg states = F states.length := by rw [hF]; dsimp only; rw [List.take_length]; rfl
 have ha := fun x : Nat => daftP p vars rows hv hrl hin5 seg (states.getD (x : Int).toNat 0)
 have hadd : ∀ x, x < states.length → PSpec Tryz.prog 86 [.agg [.sl 0 encI (vars.map (F x)), .int .i64 0], .agg [.sl 0 encI (vars.map (aftD p.rules 3 5 (states.getD (x : Int).toNat 0) seg)), .int .i64 0], .int .i64 1] (fun u => u = .agg [.sl 0 encI (vars.map (F (x + 1))), .int .i64 0]) := fun x hx => by
  rw [hFn x hx]
  exact addE vars _ _ 0 0 1 0 (by omega) hv (by omega) (cwB_mono (hFb x (by omega)) (by omega)) (fun v => by have := aftD_b p.rules 3 5 (states.getD (x : Int).toNat 0) seg v; omega) (by omega) (by omega)
 rw [hFe, show -less = 0 - less by omega]
 rw [← hF0] at hrow
 clear hF hFn hFb hFe hF0
 refine Spec.idn rfl (auto_) ?_
 refine Spec.introL tt_ok mx_ok (dbL p vars rows) Tryz.func91 rfl (by decide) ?_
 conv => whnf
 refine Spec.call idD (dbL p vars rows) 400 rfl (auto_) (auto_) hrow ?_
 rintro u M' ⟨rfl, rfl⟩
 refine ⟨idD, dbL p vars rows, .agg [.sl 0 encI (vars.map (F 0)), .int .i64 0], rfl, (auto_), (auto_), ?_⟩
 conv => whnf
 refine WPc.loopF tt_ok mx_ok (fun x : Nat => x ≤ states.length) (fun x => [(12, .top), (10, .int .i64 (x : Int))]) (fun x => dbL p vars rows ++ [(8, .box 102 [.nilsl, .int .i64 0]), (9, .box 102 [.sl 0 encI (vars.map (F x)), .int .i64 0])]) (fun x => states.length - x) 0 (Nat.zero_le _) ?_; conv => whnf
 refine ⟨Sub.by_ (idD ++ [(8, .old 8), (9, .old 9)]) _ 400 rfl (auto_) (auto_), ?_⟩
 rintro x hx
 conv => whnf
 refine cmpI ?_ ?_ <;> (intro h1; conv => whnf)
 ·have hxl : x < states.length := by omega
  have ha1 := ha x
  have hadd1 := hadd x hxl
  generalize aftD p.rules 3 5 (states.getD (x : Int).toNat 0) seg = AF at *
  apply once6
  case k =>
   intro o1 o2 o3 o4 o5 o6
   refine drawC [1, 2, 3, 4, 6] (by decide +kernel) ?_
   conv => whnf
   repeat' first
    |exact True.intro
    |(refine And.intro ?_ ?_ <;> conv => whnf)
    |(refine Spec.call idD (dbL p vars rows) 400 rfl (auto_) (auto_) ha1 ?_; rintro u M' ⟨rfl, rfl⟩; refine ⟨idD, dbL p vars rows, .agg [.sl 0 encI (vars.map AF), .int .i64 0], rfl, (auto_), (auto_), ?_⟩; conv => whnf)
    |(refine needI (by clear o1 o2 o3 o4 o5 o6; omega) ?_; conv => whnf)
    |(refine oP (hadd1) ?_; conv => whnf)
    |with_reducible exact o1
    |with_reducible exact o2
    |with_reducible exact o3
    |with_reducible exact o4
    |with_reducible exact o5
    |with_reducible exact o6
    |fail
  all_goals try first
   |exact True.intro
   |exact True
  all_goals
   repeat' ((first|refine nI ?_|refine aI ?_|refine tI ?_|refine fI ?_|fail);conv => whnf)
   refine ⟨x + 1, ?_, by omega, by dsimp only; omega⟩
   exact Sub.by_ (idD ++ [(8, .old 8), (9, .old 9)]) _ 400 rfl (auto_) (auto_)
 ·obtain rfl : x = states.length := by omega
  repeat' ((first|refine nI ?_|refine aI ?_|refine tI ?_|refine fI ?_|fail);conv => whnf)
  exact ⟨rfl, (auto_)⟩
def idDE : LMap := [(200, .old 200), (201, .old 201), (202, .old 201)]
def idDK : LMap := [(200, .old 200), (201, .old 201), (202, .old 202)]
def idDW : LMap := [(200, .old 200), (201, .old 202)]
def idDV : LMap := [(200, .old 200), (202, .old 201)]
abbrev dbG (lr : Nat) (p : Pro) (vars : List Vb) (rows : List Row) : List (Nat × Blk) := [(200, .box 98 (dbC p vars lr rows.length)), (lr, .row 102 row0 encRw rows)]
abbrev dbN (p : Pro) (vars : List Vb) (rows : List Row) : List (Nat × Blk) := [(200, .box 98 (dbC p vars 202 rows.length)), (201, .dead), (202, .row 102 row0 encRw rows)]
def stpD (kind : Int) (l : Lin) : Co := scC (stD kind) (-1) (linC l)
def stmD (kind : Int) (l : Lin) : Co := scC zC (-1) (stpD kind l)
def lS : Lin := ⟨0, 1, 0, -1⟩
theorem lS_b : bndB lS := ⟨by unfold facB lS; dsimp only; omega, by unfold facB lS; dsimp only; omega, by unfold facB lS; dsimp only; omega, by unfold facB lS; dsimp only; omega⟩
theorem lF_b : bndB lF := ⟨by unfold facB lF; dsimp only; omega, by unfold facB lF; dsimp only; omega, by unfold facB lF; dsimp only; omega, by unfold facB lF; dsimp only; omega⟩
def parD (p : Pro) : List Rw := (parL p).map parW ++ [(stpD 3 lS, 0), (stmD 3 lS, 0)] ++ if whB p then [(stpD 4 lF, 0), (stmD 4 lF, 0)] else []
theorem dparP (p : Pro) (q : Prp) (sch : List Int) (rows : List Row) (hq : propE p q = 0) (hs : schB (thrL p.rules).length sch) (hr : rows.length ≤ 1000) :
  Spec Tryz.prog 48 [.ptr 200 0] (Mem.ofL (dbL p (varL p q sch) rows)) (fun u M => u = .tup [] ∧ M = Mem.ofL (dbN p (varL p q sch) (rows ++ (parD p).map (rwL (varL p q sch))))) := by
 have hV := (vlq_of hq).vld
 have wl := (vld_of hV).len
 have hv := varL_len hq hs
 have hlin := fun rows l => dlinP p q sch rows hq hs l
 have hsta := fun rows kind => dstaP p (varL p q sch) rows (by omega) kind
 have hrow := fun rows => drowG p (varL p q sch) rows (by omega)
 have hpl : (parL p).length ≤ 9 := by unfold parL; rw [List.length_append, List.length_append]; split <;> simp <;> omega
 have bS : cwB 100 (linC lS) := linC_b lS_b
 have bF : cwB 100 (linC lF) := linC_b lF_b
 have sb : ∀ kind l, bndB l → cwB 1000 (stpD kind l) := fun kind l h v => by
  have a := linC_b h v
  have b := stD_b kind v
  unfold stpD scC
  omega
 have as3 := addE (varL p q sch) (stD 3) (linC lS) 0 0 (-1) 0 (by omega) (by omega) (by omega) (fun v => by have := stD_b 3 v; omega) (cwB_mono bS (by omega)) (by omega) (by omega)
 have as4 := addE (varL p q sch) (stD 4) (linC lF) 0 0 (-1) 0 (by omega) (by omega) (by omega) (fun v => by have := stD_b 4 v; omega) (cwB_mono bF (by omega)) (by omega) (by omega)
 have am3 := addE (varL p q sch) zC (stpD 3 lS) 0 0 (-1) 0 (by omega) (by omega) (by omega) (cwB_z (by omega)) (cwB_mono (sb 3 lS lS_b) (by omega)) (by omega) (by omega)
 have am4 := addE (varL p q sch) zC (stpD 4 lF) 0 0 (-1) 0 (by omega) (by omega) (by omega) (cwB_z (by omega)) (cwB_mono (sb 4 lF lF_b) (by omega)) (by omega) (by omega)
 rw [show scC (stD 3) (-1) (linC lS) = stpD 3 lS from rfl] at as3
 rw [show scC (stD 4) (-1) (linC lF) = stpD 4 lF from rfl] at as4
 rw [show scC zC (-1) (stpD 3 lS) = stmD 3 lS from rfl] at am3
 rw [show scC zC (-1) (stpD 4 lF) = stmD 4 lF from rfl] at am4
 have hpe : parL p = litL ++ (if p.fault = 0 then [⟨0, 0, -1, 0⟩, ⟨0, 0, 0, -1⟩] else []) ++ p.resilience := rfl
 have hpd : (parD p).map (rwL (varL p q sch)) = paR (varL p q sch) (parL p) ++ [rwL (varL p q sch) (stpD 3 lS, 0), rwL (varL p q sch) (stmD 3 lS, 0)] ++ if whB p then [rwL (varL p q sch) (stpD 4 lF, 0), rwL (varL p q sch) (stmD 4 lF, 0)] else [] := by
  unfold parD paR
  rw [List.map_append, List.map_append, List.map_map]
  congr 1
  split <;> rfl
 rw [hpd]
 clear hpd
 generalize varL p q sch = vars at *
 have hL1 : p.fault = 0 → parL p = litL ++ [⟨0, 0, -1, 0⟩, ⟨0, 0, 0, -1⟩] ++ p.resilience := fun h => by rw [hpe, if_pos h]
 have hL2 : ¬ p.fault = 0 → parL p = litL ++ p.resilience := fun h => by rw [hpe, if_neg h, List.append_nil]
 clear hpe
 generalize parL p = LL at *
 generalize stpD 3 lS = P3 at *
 generalize stmD 3 lS = M3 at *
 generalize stpD 4 lF = P4 at *
 generalize stmD 4 lF = M4 at *
 obtain ⟨R, hR⟩ : ∃ R : Nat → List Row, R = fun x => rows ++ paR vars (LL.take x) := ⟨_, rfl⟩
 have hR0 : R 0 = rows := by rw [hR]; simp [paR]
 have hRn : ∀ x, x < LL.length → R (x + 1) = R x ++ [rwL vars (parW (LL.getD (x : Int).toNat lin0))] := fun x hx => by
  rw [hR]; dsimp only; rw [take_snoc LL x hx, paR_snoc, List.append_assoc]
 have hRe : R LL.length = rows ++ paR vars LL := by rw [hR]; dsimp only; rw [List.take_length]
 have hRl : ∀ x, (R x).length ≤ 1009 := fun x => by rw [hR]; unfold paR; simp only [List.length_append, List.length_map, List.length_take]; omega
 clear hR
 refine Spec.renorm 400 (R := fun u M => u = .tup [] ∧ ∃ ℓ, (ℓ = 65 ∨ ℓ = 90) ∧ memR [(200, .old 200), (201, .old 201), (202, .old ℓ)] 400 M (dbN p vars (rows ++ (paR vars LL ++ [rwL vars (P3, 0), rwL vars (M3, 0)] ++ if whB p then [rwL vars (P4, 0), rwL vars (M4, 0)] else [])))) ?_ ?_
 case refine_2 =>
  rintro u M ⟨rfl, ℓ, rfl | rfl, hM⟩
  ·exact ⟨_, _, .tup [], rfl, hM, trivial, rfl, rfl⟩
  ·exact ⟨_, _, .tup [], rfl, hM, trivial, rfl, rfl⟩
 rw [show rows ++ (paR vars LL ++ [rwL vars (P3, 0), rwL vars (M3, 0)] ++ if whB p then [rwL vars (P4, 0), rwL vars (M4, 0)] else []) = (R LL.length ++ [rwL vars (P3, 0), rwL vars (M3, 0)]) ++ if whB p then [rwL vars (P4, 0), rwL vars (M4, 0)] else [] by rw [hRe]; simp only [List.append_assoc]]
 refine Spec.intro tt_ok mx_ok (dbL p vars rows) Tryz.func48 rfl (by decide) ?_
 conv => whnf
 refine bldI lin0 encLin litL rfl ?_
 conv => whnf
 apply once (A := WPc Tryz.prog _ (.loop _) ([.ptr 200 0, .top, .row 26 LL.length 4, .int .i64 0] ++ List.replicate 89 .top) (Mem.ofL (dbN p vars (R 0) ++ [(26, .row 124 lin0 encLin LL)])) _)
 case k =>
  intro hs0
  refine cmpI ?_ ?_ <;> (intro hf; conv => whnf)
  ·refine bldI lin0 encLin [⟨0, 0, -1, 0⟩, ⟨0, 0, 0, -1⟩] rfl ?_
   conv => whnf
   refine appI [⟨0, 0, -1, 0⟩, ⟨0, 0, 0, -1⟩] rfl (by simp only [litL, List.length_cons, List.length_nil]; omega) ?_
   conv => whnf
   refine appI p.resilience rfl (by simp only [litL, List.length_append, List.length_cons, List.length_nil]; omega) ?_
   conv => whnf
   exact WPc.sub (by rw [hR0, hL1 hf]; exact Sub.by_ (idDE ++ [(26, .old 26)]) _ 400 rfl (auto_) (by unfold litL; repeat' (first | exact True.intro | exact rfl | (refine And.intro ?_ ?_) | ((conv => whnf); omega) | ((conv => whnf); simp only [List.length_append, List.length_cons, List.length_nil]; done) | ((conv => whnf); simp only [List.length_append, List.length_cons, List.length_nil]; omega)))) hs0
  ·refine appI p.resilience rfl (by simp only [litL, List.length_append, List.length_cons, List.length_nil]; omega) ?_
   conv => whnf
   exact WPc.sub (by rw [hR0, hL2 hf]; exact Sub.by_ (idDE ++ [(26, .old 26)]) _ 400 rfl (auto_) (by unfold litL; repeat' (first | exact True.intro | exact rfl | (refine And.intro ?_ ?_) | ((conv => whnf); omega) | ((conv => whnf); simp only [List.length_append, List.length_cons, List.length_nil]; done) | ((conv => whnf); simp only [List.length_append, List.length_cons, List.length_nil]; omega)))) hs0
 case h =>
  refine WPc.loopF tt_ok mx_ok (fun x : Nat => x ≤ LL.length) (fun x => [(3, .int .i64 (x : Int))]) (fun x => dbN p vars (R x) ++ [(26, .row 124 lin0 encLin LL)]) (fun x => LL.length - x) 0 (Nat.zero_le _) ?_; conv => whnf
  refine ⟨Sub.by_ (idDK ++ [(26, .old 26)]) _ 400 rfl (auto_) (auto_), ?_⟩
  rintro x hx
  conv => whnf
  refine cmpI ?_ ?_ <;> (intro h1; conv => whnf)
  ·have hxl : x < LL.length := by omega
   have hR1 := hRn x hxl
   have hRl1 := hRl x
   have hlx := hlin (R x) (LL.getD (x : Int).toNat lin0)
   apply once6
   case k =>
    intro o1 o2 o3 o4 o5 o6
    refine drawC [0, 1, 2, 3, 5, 6, 7, 13, 14] (by decide +kernel) ?_
    conv => whnf
    repeat' first
     |exact True.intro
     |(refine And.intro ?_ ?_ <;> conv => whnf)
     |(refine leakN ?_; conv => whnf)
     |(refine needI (by clear o1 o2 o3 o4 o5 o6; omega) ?_; conv => whnf)
     |(refine Spec.call idDW (dbL p vars (R x)) 400 rfl (auto_) (auto_) hlx ?_; rintro u M' ⟨rfl, rfl⟩; refine ⟨idDV, dbG 202 p vars (R x), .agg [.sl 0 encI (vars.map (linC (LL.getD (x : Int).toNat lin0))), .int .i64 (LL.getD (x : Int).toNat lin0).c], rfl, (auto_), (auto_), ?_⟩; conv => whnf)
     |(refine bldI row0 encRw [rwL vars (parW (LL.getD (x : Int).toNat lin0))] rfl ?_; conv => whnf)
     |(refine appI [rwL vars (parW (LL.getD (x : Int).toNat lin0))] rfl (by clear o1 o2 o3 o4 o5 o6; simp only [List.length_cons, List.length_nil]; omega) ?_; conv => whnf)
     |with_reducible exact o1
     |with_reducible exact o2
     |with_reducible exact o3
     |with_reducible exact o4
     |with_reducible exact o5
     |with_reducible exact o6
     |fail
   all_goals try first
    |exact True.intro
    |exact True
   all_goals
    repeat' ((first|refine nI ?_|refine aI ?_|refine tI ?_|refine fI ?_|fail);conv => whnf)
    refine ⟨x + 1, ?_, by omega, by dsimp only; omega⟩
    dsimp only
    rw [hR1]
    exact Sub.by_ [(200, .old 200), (201, .old 201), (202, .old 45), (26, .old 26)] _ 400 rfl (auto_) (auto_)
  ·obtain rfl : x = LL.length := by omega
   have hRl1 := hRl LL.length
   have h3 := hsta (R LL.length) 3
   have h4 := hsta (R LL.length ++ [rwL vars (P3, 0), rwL vars (M3, 0)]) 4
   have hlS := hlin (R LL.length) lS
   have hlF := hlin (R LL.length ++ [rwL vars (P3, 0), rwL vars (M3, 0)]) lF
   have hrw3 := hrow (R LL.length)
   have hrw4 := hrow (R LL.length ++ [rwL vars (P3, 0), rwL vars (M3, 0)])
   rw [show lS.c = 0 from rfl] at hlS
   rw [show lF.c = 0 from rfl] at hlF
   generalize R LL.length = RL at *
   generalize stD 3 = D3 at *
   generalize stD 4 = D4 at *
   generalize hLS : linC lS = LS at *
   generalize hLF : linC lF = LF at *
   clear hLS hLF
   refine Spec.call idDW (dbL p vars RL) 400 rfl (auto_) (auto_) h3 ?_
   rintro u M' ⟨rfl, rfl⟩
   refine ⟨idDV, dbG 202 p vars RL, .agg [.sl 0 encI (vars.map D3), .int .i64 0], rfl, (auto_), (auto_), ?_⟩
   conv => whnf
   refine Spec.call idDW (dbL p vars RL) 400 rfl (auto_) (auto_) hlS ?_
   rintro u M' ⟨rfl, rfl⟩
   refine ⟨idDV, dbG 202 p vars RL, .agg [.sl 0 encI (vars.map LS), .int .i64 0], rfl, (auto_), (auto_), ?_⟩
   conv => whnf
   refine oP as3 ?_
   conv => whnf
   apply once6
   case k =>
    intro o1 o2 o3 o4 o5 o6
    refine drawC [0, 1, 2, 3, 6, 12, 13] (by decide +kernel) ?_
    conv => whnf
    repeat' first
     |exact True.intro
     |(refine And.intro ?_ ?_ <;> conv => whnf)
     |(refine leakN ?_; conv => whnf)
     |(refine Spec.call idDW (dbL p vars (RL)) 400 rfl (auto_) (auto_) hrw3 ?_; rintro u M' ⟨rfl, rfl⟩; refine ⟨idDV, dbG 202 p vars (RL), .agg [.sl 0 encI (vars.map zC), .int .i64 0], rfl, (auto_), (auto_), ?_⟩; conv => whnf)
     |(refine oP (am3) ?_; conv => whnf)
     |(refine bldI row0 encRw [rwL vars (P3, 0), rwL vars (M3, 0)] rfl ?_; conv => whnf)
     |(refine appI [rwL vars (P3, 0), rwL vars (M3, 0)] rfl (by clear o1 o2 o3 o4 o5 o6; simp only [List.length_cons, List.length_nil]; omega) ?_; conv => whnf)
     |with_reducible exact o1
     |with_reducible exact o2
     |with_reducible exact o3
     |with_reducible exact o4
     |with_reducible exact o5
     |with_reducible exact o6
     |fail
   all_goals try first
    |exact True.intro
    |exact True
   all_goals
    refine dC (withholdingR p) (fun _ => ?_) (fun _ => ?_) <;> (conv => whnf)
    ·rename_i hw
     rw [if_pos hw]
     refine Spec.call [(200, .old 200), (201, .old 65)] (dbL p vars (RL ++ [rwL vars (P3, 0), rwL vars (M3, 0)])) 400 rfl (auto_) (auto_) h4 ?_
     rintro u M' ⟨rfl, rfl⟩
     refine ⟨[(200, .old 200), (65, .old 201)], dbG 65 p vars (RL ++ [rwL vars (P3, 0), rwL vars (M3, 0)]), .agg [.sl 0 encI (vars.map D4), .int .i64 0], rfl, (auto_), (auto_), ?_⟩
     conv => whnf
     refine Spec.call [(200, .old 200), (201, .old 65)] (dbL p vars (RL ++ [rwL vars (P3, 0), rwL vars (M3, 0)])) 400 rfl (auto_) (auto_) hlF ?_
     rintro u M' ⟨rfl, rfl⟩
     refine ⟨[(200, .old 200), (65, .old 201)], dbG 65 p vars (RL ++ [rwL vars (P3, 0), rwL vars (M3, 0)]), .agg [.sl 0 encI (vars.map LF), .int .i64 0], rfl, (auto_), (auto_), ?_⟩
     conv => whnf
     refine oP as4 ?_
     conv => whnf
     refine drawC [0, 1, 2, 3, 6, 12, 13] (by decide +kernel) ?_
     conv => whnf
     repeat' first
      |exact True.intro
      |exact ⟨rfl, 90, .inr rfl, (auto_)⟩
      |(refine And.intro ?_ ?_ <;> conv => whnf)
      |(refine leakN ?_; conv => whnf)
      |(refine Spec.call [(200, .old 200), (201, .old 65)] (dbL p vars (RL ++ [rwL vars (P3, 0), rwL vars (M3, 0)])) 400 rfl (auto_) (auto_) hrw4 ?_; rintro u M' ⟨rfl, rfl⟩; refine ⟨[(200, .old 200), (65, .old 201)], dbG 65 p vars (RL ++ [rwL vars (P3, 0), rwL vars (M3, 0)]), .agg [.sl 0 encI (vars.map zC), .int .i64 0], rfl, (auto_), (auto_), ?_⟩; conv => whnf)
      |(refine oP (am4) ?_; conv => whnf)
      |(refine bldI row0 encRw [rwL vars (P4, 0), rwL vars (M4, 0)] rfl ?_; conv => whnf)
      |(refine appI [rwL vars (P4, 0), rwL vars (M4, 0)] rfl (by simp only [List.length_append, List.length_cons, List.length_nil]; omega) ?_; conv => whnf)
      |fail
    ·rename_i hw
     rw [if_neg hw, List.append_nil]
     exact ⟨rfl, 65, .inl rfl, (auto_)⟩
end Go.Proofs.YtfoplfpbjajljaaGreatDoor
