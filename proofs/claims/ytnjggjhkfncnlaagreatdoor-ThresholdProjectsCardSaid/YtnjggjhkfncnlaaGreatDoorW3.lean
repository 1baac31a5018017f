import Derived.Test.YtnjggjhkfncnlaaGreatDoorW2
import Derived.Test.YtnjggjhkfncnlaaGreatDoorV1
set_option linter.unusedVariables false
set_option linter.unusedSimpArgs false
namespace Go.Proofs.YtnjggjhkfncnlaaGreatDoor
set_option maxRecDepth 100000
set_option maxHeartbeats 16000000
def mvV3 : LMap:=[(200, .old 200), (202, .old 201), (203, .old 202), (210, .old 210), (211, .old 211), (212, .old 212), (213, .old 213), (214, .old 214), (215, .old 215), (216, .old 216)]
def mvZ : LMap:=[(200, .old 200), (201, .old 201), (202, .old 203), (210, .old 210), (211, .old 211), (212, .old 212), (213, .old 213), (214, .old 214), (215, .old 215), (216, .old 216)]
noncomputable abbrev bdH (p : Pro) (q : Prp) (sch : List Int) (vars : List Vb) (rows : List Row) : List (Nat × Blk) :=
 [(200, .box 76 (bdC p q sch vars.length 203 rows.length)), (202, .dead), (203, .row 154 row0 encRw rows), (210, mpB vars 0), (211, mpB vars 1), (212, mpB vars 2), (213, mpB vars 3), (214, mpB vars 4), (215, mpB vars 5), (216, mpB vars 6)]
def oL (goal : List Int) (x : Nat) : List Int:=((List.range x).map fun x : Nat=>(x : Int)).filter fun x=>decide (x ∉ goal)
theorem oL_zero (goal : List Int) : oL goal 0 = []:=rfl
theorem oL_succ (goal : List Int) (x : Nat) : oL goal (x + 1) = oL goal x ++ if (x : Int) ∈ goal then [] else [(x : Int)]:=by
 unfold oL
 rw [List.range_succ, List.map_append, List.filter_append]
 congr 1
 by_cases h : (x : Int) ∈ goal <;> simp [h]
theorem oL_len (goal : List Int) (x : Nat) : (oL goal x).length ≤ x:=by
 unfold oL
 have:=List.length_filter_le (fun x=>decide (x ∉ goal)) ((List.range x).map fun x : Nat=>(x : Int))
 simpa using this
theorem vioP (p : Pro) (q : Prp) (sch : List Int) (vars : List Vb) (rows : List Row) (hn : vars.Nodup) (hv : vars.length ≤ 1000000) (hr : rows.length ≤ 100000) (hst : p.states.length ≤ 1000) (hrl : p.rules.length ≤ 1000) (hsd : ∀ i, i < p.rules.length → (p.rules.getD i rul0).send.length ≤ 1000000) (hsl : sch.length ≤ 9)
  (hV : validE p = 0) (hbad : q.kind = 1 → q.bad.length ≤ 1000 ∧ ∀ i, i < q.bad.length → (q.bad.getD i cnt0).states.length ≤ 10000 ∧ 0 ≤ (q.bad.getD i cnt0).least ∧ (q.bad.getD i cnt0).least ≤ 1000) (hgo : q.goal.length ≤ 1000000)
  (hg : ∀ i, i < p.rules.length → (∀ g ∈ (p.rules.getD i rul0).guards, (1 ≤ g.coef ∧ g.coef ≤ 100) ∧ bndB g.bound) ∧ (p.rules.getD i rul0).guards.length ≤ 1000) (number : Nat) (hnu : number ≤ 1000000) :
  Spec Tryz.prog 96 [.ptr 200 0, .int .i64 (number : Int)] (Mem.ofL (bdL p q sch vars rows))
   (fun u M=>u = .tup [] ∧ M = Mem.ofL (bdN p q sch vars (rows ++ (vioL p q sch.length number).map (rwL vars)))):=by
 refine Spec.renorm 400 (R:=fun u M=>u = .tup [] ∧ memR mvK 400 M (bdN p q sch vars (rows ++ (vioL p q sch.length number).map (rwL vars)))) ?_ ?_
 case refine_2 =>
  rintro u M ⟨rfl, hM⟩
  exact ⟨mvK, _, .tup [], rfl, hM, trivial, rfl, rfl⟩
 have hch:=choiceF p q hV number hnu
 by_cases hk : q.kind = 1
 ·obtain ⟨hbl, hbad⟩:=hbad hk
  obtain ⟨R, hR⟩ : ∃ R : Nat → List Row, R = fun x=>rows ++ (q.bad.take x).map fun c=>rwL vars (amgW p sch.length c.states c.least):=⟨_, rfl⟩
  have hR0 : R 0 = rows:=by rw [hR]; simp
  have hRn : ∀ x, x < q.bad.length → R (x + 1) = R x ++ [rwL vars (amgW p sch.length (q.bad.getD (x : Int).toNat cnt0).states (q.bad.getD (x : Int).toNat cnt0).least)]:=fun x hx=>by
   rw [hR, tN]
   dsimp only
   rw [List.take_succ_eq_append_getElem hx, List.map_append, ← List.append_assoc, getD_elem cnt0 hx]
   rfl
  have hRl : ∀ x, x ≤ q.bad.length → (R x).length ≤ 102000:=fun x hx=>by
   rw [hR]; simp only [List.length_append, List.length_map, List.length_take]; omega
  have hend : rows ++ (vioL p q sch.length number).map (rwL vars) = R q.bad.length:=by
   rw [hR]; dsimp only; rw [List.take_length]; unfold vioL; rw [if_pos hk, List.map_map]; rfl
  rw [hend]
  have ha:=fun x (hx : x < q.bad.length)=>amgP p q sch vars (R x) hn hv (by have:=hRl x (by omega); omega) hrl (by omega) (q.bad.getD (x : Int).toNat cnt0).states (by rw [tN]; exact (hbad x hx).1) (q.bad.getD (x : Int).toNat cnt0).least (by rw [tN]; exact (hbad x hx).2)
  have ha : ∀ x, x < q.bad.length → Spec Tryz.prog 170 [.ptr 200 0, .sl 0 encI (q.bad.getD (x : Int).toNat cnt0).states, .int .i64 (q.bad.getD (x : Int).toNat cnt0).least] (Mem.ofL (bdL p q sch vars (R x)))
    (fun u M=>u = .tup [] ∧ M = Mem.ofL (bdN p q sch vars (R (x + 1)))):=fun x hx=>by rw [hRn x hx]; exact ha x hx
  clear hR hRn hend
  refine Spec.intro tt_ok mx_ok (bdL p q sch vars rows) Tryz.func96 rfl (by decide) ?_
  conv=>whnf
  refine cmpT hk ?_
  conv=>whnf
  refine WPc.loopF tt_ok mx_ok (fun x : Nat=>x ≤ q.bad.length) (fun x=>[(28, .int .i64 (x : Int))]) (fun x=>bdN p q sch vars (R x)) (fun x=>q.bad.length - x) 0 (Nat.zero_le _) ?_; conv=>whnf
  refine ⟨by rw [hR0]; exact Sub.by_ mvE _ 400 rfl (auto_) (auto_), ?_⟩
  rintro x hx
  conv=>whnf
  refine cmpI ?_ ?_ <;> (intro h1; conv=>whnf)
  ·have ha1:=ha x (by omega)
   repeat' ((first|refine nI ?_|refine aI ?_|refine tI ?_|refine fI ?_|fail);conv=>whnf)
   refine Spec.call mvW (bdL p q sch vars (R x)) 400 rfl (auto_) (auto_) ha1 ?_
   rintro u M' ⟨rfl, rfl⟩
   refine ⟨mvV3, bdH p q sch vars (R (x + 1)), .tup [], rfl, (auto_), trivial, ?_⟩
   conv=>whnf
   repeat' ((first|refine nI ?_|refine aI ?_|refine tI ?_|refine fI ?_|fail);conv=>whnf)
   refine ⟨x + 1, ?_, by omega, by dsimp only; omega⟩
   exact Sub.by_ mvZ _ 400 rfl (auto_) (auto_)
  ·obtain rfl : x = q.bad.length:=by omega
   exact ⟨rfl, (auto_)⟩
 ·rw [if_neg hk] at hch
  obtain ⟨R, hR⟩ : ∃ R : Nat → List Row, R = fun x=>rows ++ (amgW p sch.length (outL p q) 1 :: (List.range x).map fun i=>idlW p sch.length (p.rules.getD i rul0) ((chL p number).getD i 0)).map (rwL vars):=⟨_, rfl⟩
  have hR0 : R 0 = rows ++ [rwL vars (amgW p sch.length (oL q.goal p.states.length) 1)]:=by rw [hR]; rfl
  have hRn : ∀ x, R (x + 1) = R x ++ [rwL vars (idlW p sch.length (p.rules.getD x rul0) ((chL p number).getD (x : Int).toNat 0))]:=fun x=>by
   rw [hR, tN]
   dsimp only
   rw [List.range_succ]
   simp only [List.map_append, List.map_cons, List.map_nil, List.append_assoc, List.cons_append]
  have hRl : ∀ x, x ≤ p.rules.length → (R x).length ≤ 102000:=fun x hx=>by
   rw [hR]; simp only [List.length_append, List.length_map, List.length_cons, List.length_range]; omega
  have hend : rows ++ (vioL p q sch.length number).map (rwL vars) = R p.rules.length:=by
   rw [hR]; unfold vioL; rw [if_neg hk]
  rw [hend]
  have hi : ∀ x, x < p.rules.length → Spec Tryz.prog 172 [.ptr 200 0, .int .i64 (x : Int), .int .i64 ((chL p number).getD (x : Int).toNat 0)] (Mem.ofL (bdL p q sch vars (R x)))
    (fun u M=>u = .tup [] ∧ M = Mem.ofL (bdN p q sch vars (R (x + 1)))):=fun x hx=>by
   rw [hRn x]
   have hc : (chL p number).getD (x : Int).toNat 0 = (chD p.rules number x : Int):=by rw [tN]; exact chL_get hx
   have:=chD_le p.rules number x
   exact idlP p q sch vars (R x) hn hv (by have:=hRl x (by omega); omega) hrl hsd hsl x hx (hg x hx).1 (hg x hx).2 _ (by rw [hc]; omega)
  have hol:=oL_len q.goal
  have ha:=amgP p q sch vars rows hn hv (by omega) hrl (by omega) (oL q.goal p.states.length) (by have:=hol p.states.length; omega) 1 (by omega)
  rw [← hR0] at ha
  have hO0:=oL_zero q.goal
  have hOn:=oL_succ q.goal
  have hcl:=chL_len p number
  clear hR hR0 hRn hend
  generalize hO : oL q.goal = O at *
  generalize chL p number = C at *
  clear hO
  refine Spec.intro tt_ok mx_ok (bdL p q sch vars rows) Tryz.func96 rfl (by decide) ?_
  conv=>whnf
  refine cmpF hk ?_
  conv=>whnf
  refine WPc.loopF tt_ok mx_ok (fun x : Nat=>x ≤ p.states.length) (fun x=>[(6, .row 230 (O x).length 1), (48, .int .i64 (x : Int))]) (fun x=>bdL p q sch vars rows ++ [(230, .row 3 0 encI (O x))]) (fun x=>p.states.length - x) 0 (Nat.zero_le _) ?_; conv=>whnf
  refine ⟨by rw [hO0]; exact Sub.by_ (idB ++ [(230, .nil 1)]) _ 400 rfl (auto_) (auto_), ?_⟩
  rintro x hx
  conv=>whnf
  refine cmpI ?_ ?_ <;> (intro h1; conv=>whnf)
  ·have hO1:=hOn x
   have hl1:=hol x
   repeat' ((first|refine nI ?_|refine aI ?_|refine tI ?_|refine fI ?_|fail);conv=>whnf)
   refine dC (iContainsF q.goal (x : Int) (by omega)) (fun _=>?_) (fun _=>?_) <;> (conv=>whnf)
   ·rename_i hm
    rw [if_pos hm, List.append_nil] at hO1
    repeat' ((first|refine nI ?_|refine aI ?_|refine tI ?_|refine fI ?_|fail);conv=>whnf)
    refine ⟨x + 1, ?_, by omega, by dsimp only; omega⟩
    dsimp only
    rw [hO1]
    exact Sub.by_ (idB ++ [(230, .old 230)]) _ 400 rfl (auto_) (auto_)
   ·rename_i hm
    rw [if_neg hm] at hO1
    repeat' ((first|refine nI ?_|refine aI ?_|refine tI ?_|refine fI ?_|fail);conv=>whnf)
    refine appI [(x : Int)] rfl lI ?_
    conv=>whnf
    repeat' ((first|refine nI ?_|refine aI ?_|refine tI ?_|refine fI ?_|fail);conv=>whnf)
    refine ⟨x + 1, ?_, by omega, by dsimp only; omega⟩
    dsimp only
    rw [hO1]
    exact Sub.by_ (idB ++ [(230, .old 65)]) _ 400 rfl (auto_) (auto_)
  ·obtain rfl : x = p.states.length:=by omega
   repeat' ((first|refine nI ?_|refine aI ?_|refine tI ?_|refine fI ?_|fail);conv=>whnf)
   refine Spec.hand 230 rfl ?_
   conv=>whnf
   refine Spec.call idB (bdL p q sch vars rows) 400 rfl (auto_) (auto_) ha ?_
   rintro u M' ⟨rfl, rfl⟩
   refine ⟨mvK, bdN p q sch vars (R 0), .tup [], rfl, (auto_), trivial, ?_⟩
   conv=>whnf
   repeat' ((first|refine nI ?_|refine aI ?_|refine tI ?_|refine fI ?_|fail);conv=>whnf)
   (refine oP (hch) ?_; conv=>whnf)
   refine WPc.loopF tt_ok mx_ok (fun x : Nat=>x ≤ p.rules.length) (fun x=>[(6, .top), (68, .top), (77, .int .i64 (x : Int))]) (fun x=>bdN p q sch vars (R x)) (fun x=>p.rules.length - x) 0 (Nat.zero_le _) ?_; conv=>whnf
   refine ⟨Sub.by_ mvK _ 400 rfl (auto_) (auto_), ?_⟩
   rintro x hx
   conv=>whnf
   refine cmpI ?_ ?_ <;> (intro h1; conv=>whnf)
   ·have hi1:=hi x (by omega)
    repeat' ((first|refine nI ?_|refine aI ?_|refine tI ?_|refine fI ?_|fail);conv=>whnf)
    refine Spec.call mvW (bdL p q sch vars (R x)) 400 rfl (auto_) (auto_) hi1 ?_
    rintro u M' ⟨rfl, rfl⟩
    refine ⟨mvV3, bdH p q sch vars (R (x + 1)), .tup [], rfl, (auto_), trivial, ?_⟩
    conv=>whnf
    repeat' ((first|refine nI ?_|refine aI ?_|refine tI ?_|refine fI ?_|fail);conv=>whnf)
    refine ⟨x + 1, ?_, by omega, by dsimp only; omega⟩
    exact Sub.by_ mvZ _ 400 rfl (auto_) (auto_)
   ·obtain rfl : x = p.rules.length:=by omega
    exact ⟨rfl, (auto_)⟩
def bgL (p : Pro) (q : Prp) (sch : List Int) : Nat → List (Nat × Blk)
 |0=>[(12, .box 76 [.pd (famC p q), .sl 0 encI sch, .int .i64 0, .val (.map none), .val (.map none), .val (.map none), .val (.map none), .val (.map none), .val (.map none), .val (.map none), .nilsl])]
 |1=>[(12, .box 76 [.pd (famC p q), .sl 0 encI sch, .int .i64 0, .mp 210, .val (.map none), .val (.map none), .val (.map none), .val (.map none), .val (.map none), .val (.map none), .nilsl]), (210, .map kyA (Value.int .i64) (fun _=>none))]
 |2=>[(12, .box 76 [.pd (famC p q), .sl 0 encI sch, .int .i64 0, .mp 210, .mp 211, .val (.map none), .val (.map none), .val (.map none), .val (.map none), .val (.map none), .nilsl]), (210, .map kyA (Value.int .i64) (fun _=>none)), (211, .map kyA (Value.int .i64) (fun _=>none))]
 |3=>[(12, .box 76 [.pd (famC p q), .sl 0 encI sch, .int .i64 0, .mp 210, .mp 211, .mp 212, .val (.map none), .val (.map none), .val (.map none), .val (.map none), .nilsl]), (210, .map kyA (Value.int .i64) (fun _=>none)), (211, .map kyA (Value.int .i64) (fun _=>none)), (212, .map kyA (Value.int .i64) (fun _=>none))]
 |4=>[(12, .box 76 [.pd (famC p q), .sl 0 encI sch, .int .i64 0, .mp 210, .mp 211, .mp 212, .mp 213, .val (.map none), .val (.map none), .val (.map none), .nilsl]), (210, .map kyA (Value.int .i64) (fun _=>none)), (211, .map kyA (Value.int .i64) (fun _=>none)), (212, .map kyA (Value.int .i64) (fun _=>none)), (213, .map kyA (Value.int .i64) (fun _=>none))]
 |5=>[(12, .box 76 [.pd (famC p q), .sl 0 encI sch, .int .i64 0, .mp 210, .mp 211, .mp 212, .mp 213, .mp 214, .val (.map none), .val (.map none), .nilsl]), (210, .map kyA (Value.int .i64) (fun _=>none)), (211, .map kyA (Value.int .i64) (fun _=>none)), (212, .map kyA (Value.int .i64) (fun _=>none)), (213, .map kyA (Value.int .i64) (fun _=>none)), (214, .map kyA (Value.int .i64) (fun _=>none))]
 |6=>[(12, .box 76 [.pd (famC p q), .sl 0 encI sch, .int .i64 0, .mp 210, .mp 211, .mp 212, .mp 213, .mp 214, .mp 215, .val (.map none), .nilsl]), (210, .map kyA (Value.int .i64) (fun _=>none)), (211, .map kyA (Value.int .i64) (fun _=>none)), (212, .map kyA (Value.int .i64) (fun _=>none)), (213, .map kyA (Value.int .i64) (fun _=>none)), (214, .map kyA (Value.int .i64) (fun _=>none)), (215, .map kyA (Value.int .i64) (fun _=>none))]
 |7=>[(12, .box 76 [.pd (famC p q), .sl 0 encI sch, .int .i64 0, .mp 210, .mp 211, .mp 212, .mp 213, .mp 214, .mp 215, .mp 216, .nilsl]), (210, .map kyA (Value.int .i64) (fun _=>none)), (211, .map kyA (Value.int .i64) (fun _=>none)), (212, .map kyA (Value.int .i64) (fun _=>none)), (213, .map kyA (Value.int .i64) (fun _=>none)), (214, .map kyA (Value.int .i64) (fun _=>none)), (215, .map kyA (Value.int .i64) (fun _=>none)), (216, .map kyA (Value.int .i64) (fun _=>none))]
 |_=>[]
noncomputable abbrev bhL (p : Pro) (q : Prp) (sch : List Int) (vars : List Vb) (n : Nat) : List (Nat × Blk) :=
 [(12, .box 76 [.pd (famC p q), .sl 0 encI sch, .int .i64 n, .mp 210, .mp 211, .mp 212, .mp 213, .mp 214, .mp 215, .mp 216, .nilsl]), (210, .map kyA (Value.int .i64) (plN vars 0 n)), (211, .map kyA (Value.int .i64) (plN vars 1 n)), (212, .map kyA (Value.int .i64) (plN vars 2 n)), (213, .map kyA (Value.int .i64) (plN vars 3 n)), (214, .map kyA (Value.int .i64) (plN vars 4 n)), (215, .map kyA (Value.int .i64) (plN vars 5 n)), (216, .map kyA (Value.int .i64) (plN vars 6 n))]
theorem plN_no {vars : List Vb} {n : Nat} {k : Int} (h : (vars.getD n vb0).kind ≠ k) : plN vars k (n + 1) = plN vars k n:=by
 rw [plN, if_neg h]
theorem plN_up {vars : List Vb} {n : Nat} {k : Int} (h : (vars.getD n vb0).kind = k) : plN vars k (n + 1) = updF (plN vars k n) ((vars.getD n vb0).seg, (vars.getD n vb0).idx) (n : Int):=by
 rw [plN, if_pos h]
theorem begP (p : Pro) (q : Prp) (sch : List Int) (hq : propE p q = 0) (hs : schB (thrL p.rules).length sch) (hk : ∀ n, n < (varL p q sch).length → 0 ≤ ((varL p q sch).getD n vb0).kind ∧ ((varL p q sch).getD n vb0).kind < 7) :
  Spec Tryz.prog 21 [.pd (famC p q), .sl 0 encI sch] (Mem.ofL [])
   (fun u M=>u = .ptr 200 0 ∧ M = Mem.ofL (bdL p q sch (varL p q sch) [])):=by
 have hvl:=varL_len hq hs
 have hvf:=variablesF p q hq sch hs
 have hsl:=sch_len hs
 generalize varL p q sch = vars at *
 refine Spec.renorm 400 (R:=fun u M=>u = .ptr 12 0 ∧ memR [(200, .old 12), (201, .nil 2), (210, .old 210), (211, .old 211), (212, .old 212), (213, .old 213), (214, .old 214), (215, .old 215), (216, .old 216)] 400 M (bdL p q sch vars [])) ?_ ?_
 case refine_2 =>
  rintro u M ⟨rfl, hM⟩
  exact ⟨[(200, .old 12), (201, .nil 2), (210, .old 210), (211, .old 211), (212, .old 212), (213, .old 213), (214, .old 214), (215, .old 215), (216, .old 216)], _, .ptr 200 0, rfl, hM, (auto_), rfl, rfl⟩
 refine Spec.intro tt_ok mx_ok [] Tryz.func21 rfl (by decide) ?_
 conv=>whnf
 refine boxL ?_
 conv=>whnf
 refine WPc.loopF tt_ok mx_ok (fun i : Nat=>i ≤ 7) (fun i=>[(13, .int .i64 (i : Int))]) (fun i=>bgL p q sch i) (fun i=>7 - i) 0 (Nat.zero_le _) ?_; conv=>whnf
 refine ⟨Sub.by_ [(12, .old 12)] _ 400 rfl (auto_) (auto_), ?_⟩
 rintro i hi
 obtain rfl | rfl | rfl | rfl | rfl | rfl | rfl | rfl : i = 0 ∨ i = 1 ∨ i = 2 ∨ i = 3 ∨ i = 4 ∨ i = 5 ∨ i = 6 ∨ i = 7:=by omega
 ·conv=>whnf
  refine tI ?_
  conv=>whnf
  refine mapI kyA (Value.int .i64) ?_
  conv=>whnf
  repeat' ((first|refine nI ?_|refine aI ?_|refine tI ?_|refine fI ?_|fail);conv=>whnf)
  refine ⟨1, ?_, by omega, by dsimp only; omega⟩
  exact Sub.by_ [(12, .old 12), (210, .old 18)] _ 400 rfl (auto_) (auto_)
 ·conv=>whnf
  refine tI ?_
  conv=>whnf
  refine mapI kyA (Value.int .i64) ?_
  conv=>whnf
  repeat' ((first|refine nI ?_|refine aI ?_|refine tI ?_|refine fI ?_|fail);conv=>whnf)
  refine ⟨2, ?_, by omega, by dsimp only; omega⟩
  exact Sub.by_ [(12, .old 12), (210, .old 210), (211, .old 18)] _ 400 rfl (auto_) (auto_)
 ·conv=>whnf
  refine tI ?_
  conv=>whnf
  refine mapI kyA (Value.int .i64) ?_
  conv=>whnf
  repeat' ((first|refine nI ?_|refine aI ?_|refine tI ?_|refine fI ?_|fail);conv=>whnf)
  refine ⟨3, ?_, by omega, by dsimp only; omega⟩
  exact Sub.by_ [(12, .old 12), (210, .old 210), (211, .old 211), (212, .old 18)] _ 400 rfl (auto_) (auto_)
 ·conv=>whnf
  refine tI ?_
  conv=>whnf
  refine mapI kyA (Value.int .i64) ?_
  conv=>whnf
  repeat' ((first|refine nI ?_|refine aI ?_|refine tI ?_|refine fI ?_|fail);conv=>whnf)
  refine ⟨4, ?_, by omega, by dsimp only; omega⟩
  exact Sub.by_ [(12, .old 12), (210, .old 210), (211, .old 211), (212, .old 212), (213, .old 18)] _ 400 rfl (auto_) (auto_)
 ·conv=>whnf
  refine tI ?_
  conv=>whnf
  refine mapI kyA (Value.int .i64) ?_
  conv=>whnf
  repeat' ((first|refine nI ?_|refine aI ?_|refine tI ?_|refine fI ?_|fail);conv=>whnf)
  refine ⟨5, ?_, by omega, by dsimp only; omega⟩
  exact Sub.by_ [(12, .old 12), (210, .old 210), (211, .old 211), (212, .old 212), (213, .old 213), (214, .old 18)] _ 400 rfl (auto_) (auto_)
 ·conv=>whnf
  refine tI ?_
  conv=>whnf
  refine mapI kyA (Value.int .i64) ?_
  conv=>whnf
  repeat' ((first|refine nI ?_|refine aI ?_|refine tI ?_|refine fI ?_|fail);conv=>whnf)
  refine ⟨6, ?_, by omega, by dsimp only; omega⟩
  exact Sub.by_ [(12, .old 12), (210, .old 210), (211, .old 211), (212, .old 212), (213, .old 213), (214, .old 214), (215, .old 18)] _ 400 rfl (auto_) (auto_)
 ·conv=>whnf
  refine tI ?_
  conv=>whnf
  refine mapI kyA (Value.int .i64) ?_
  conv=>whnf
  repeat' ((first|refine nI ?_|refine aI ?_|refine tI ?_|refine fI ?_|fail);conv=>whnf)
  refine ⟨7, ?_, by omega, by dsimp only; omega⟩
  exact Sub.by_ [(12, .old 12), (210, .old 210), (211, .old 211), (212, .old 212), (213, .old 213), (214, .old 214), (215, .old 215), (216, .old 18)] _ 400 rfl (auto_) (auto_)
 ·conv=>whnf
  refine fI ?_
  conv=>whnf
  (refine oP (hvf) ?_; conv=>whnf)
  refine WPc.loopF tt_ok mx_ok (fun n : Nat=>n ≤ vars.length) (fun n=>[(27, .int .i64 (n : Int))]) (fun n=>bhL p q sch vars n) (fun n=>vars.length - n) 0 (Nat.zero_le _) ?_; conv=>whnf
  refine ⟨Sub.by_ [(12, .old 12), (210, .old 210), (211, .old 211), (212, .old 212), (213, .old 213), (214, .old 214), (215, .old 215), (216, .old 216)] _ 400 rfl (auto_) (auto_), ?_⟩
  rintro n hn
  conv=>whnf
  refine cmpI ?_ ?_ <;> (intro h1; conv=>whnf)
  ·have hkn:=hk n (by omega)
   repeat' ((first|refine nI ?_|refine aI ?_|refine tI ?_|refine fI ?_|fail);conv=>whnf)
   have hno : ∀ k : Int, ((vars.getD n vb0).kind ≠ k) → plN vars k (n + 1) = plN vars k n:=fun k=>plN_no
   have hup : ∀ k : Int, ((vars.getD n vb0).kind = k) → plN vars k (n + 1) = updF (plN vars k n) ((vars.getD n vb0).seg, (vars.getD n vb0).idx) (n : Int):=fun k=>plN_up
   rw [tN]
   generalize vars.getD n vb0 = v at *
   obtain ⟨kd, sg, ix⟩:=v
   dsimp only at hkn hno hup
   obtain rfl | rfl | rfl | rfl | rfl | rfl | rfl : kd = 0 ∨ kd = 1 ∨ kd = 2 ∨ kd = 3 ∨ kd = 4 ∨ kd = 5 ∨ kd = 6:=by omega
   ·apply once6
    case k =>
     intro o1 o2 o3 o4 o5 o6
     refine drawQZ [0, 1, 3, 4, 5, 7, 9, 11, 12] (by decide +kernel) ?_
     conv=>whnf
     repeat' first
      |exact True.intro
      |(refine And.intro ?_ ?_ <;> conv=>whnf)
      |(refine needI (by clear o1 o2 o3 o4 o5 o6; dsimp only; omega) ?_; conv=>whnf)
      |(refine updI keyArr (sg, ix) (n : Int) rfl rfl ?_; conv=>whnf)
      |with_reducible exact o1
      |with_reducible exact o2
      |with_reducible exact o3
      |with_reducible exact o4
      |with_reducible exact o5
      |with_reducible exact o6
      |fail
    all_goals try first
     |exact True.intro
     |exact True
    all_goals
     repeat' ((first|refine nI ?_|refine aI ?_|refine tI ?_|refine fI ?_|fail);conv=>whnf)
     refine ⟨n + 1, ?_, by omega, by dsimp only; omega⟩
     dsimp only
     unfold bhL
     rw [hno 1 (by decide), hno 2 (by decide), hno 3 (by decide), hno 4 (by decide), hno 5 (by decide), hno 6 (by decide), hup 0 rfl]
     exact Sub.by_ [(12, .old 12), (210, .old 210), (211, .old 211), (212, .old 212), (213, .old 213), (214, .old 214), (215, .old 215), (216, .old 216)] _ 400 rfl (auto_) (auto_)
   ·apply once6
    case k =>
     intro o1 o2 o3 o4 o5 o6
     refine drawQZ [0, 1, 3, 4, 5, 7, 9, 11, 12] (by decide +kernel) ?_
     conv=>whnf
     repeat' first
      |exact True.intro
      |(refine And.intro ?_ ?_ <;> conv=>whnf)
      |(refine needI (by clear o1 o2 o3 o4 o5 o6; dsimp only; omega) ?_; conv=>whnf)
      |(refine updI keyArr (sg, ix) (n : Int) rfl rfl ?_; conv=>whnf)
      |with_reducible exact o1
      |with_reducible exact o2
      |with_reducible exact o3
      |with_reducible exact o4
      |with_reducible exact o5
      |with_reducible exact o6
      |fail
    all_goals try first
     |exact True.intro
     |exact True
    all_goals
     repeat' ((first|refine nI ?_|refine aI ?_|refine tI ?_|refine fI ?_|fail);conv=>whnf)
     refine ⟨n + 1, ?_, by omega, by dsimp only; omega⟩
     dsimp only
     unfold bhL
     rw [hno 0 (by decide), hno 2 (by decide), hno 3 (by decide), hno 4 (by decide), hno 5 (by decide), hno 6 (by decide), hup 1 rfl]
     exact Sub.by_ [(12, .old 12), (210, .old 210), (211, .old 211), (212, .old 212), (213, .old 213), (214, .old 214), (215, .old 215), (216, .old 216)] _ 400 rfl (auto_) (auto_)
   ·apply once6
    case k =>
     intro o1 o2 o3 o4 o5 o6
     refine drawQZ [0, 1, 3, 4, 5, 7, 9, 11, 12] (by decide +kernel) ?_
     conv=>whnf
     repeat' first
      |exact True.intro
      |(refine And.intro ?_ ?_ <;> conv=>whnf)
      |(refine needI (by clear o1 o2 o3 o4 o5 o6; dsimp only; omega) ?_; conv=>whnf)
      |(refine updI keyArr (sg, ix) (n : Int) rfl rfl ?_; conv=>whnf)
      |with_reducible exact o1
      |with_reducible exact o2
      |with_reducible exact o3
      |with_reducible exact o4
      |with_reducible exact o5
      |with_reducible exact o6
      |fail
    all_goals try first
     |exact True.intro
     |exact True
    all_goals
     repeat' ((first|refine nI ?_|refine aI ?_|refine tI ?_|refine fI ?_|fail);conv=>whnf)
     refine ⟨n + 1, ?_, by omega, by dsimp only; omega⟩
     dsimp only
     unfold bhL
     rw [hno 0 (by decide), hno 1 (by decide), hno 3 (by decide), hno 4 (by decide), hno 5 (by decide), hno 6 (by decide), hup 2 rfl]
     exact Sub.by_ [(12, .old 12), (210, .old 210), (211, .old 211), (212, .old 212), (213, .old 213), (214, .old 214), (215, .old 215), (216, .old 216)] _ 400 rfl (auto_) (auto_)
   ·apply once6
    case k =>
     intro o1 o2 o3 o4 o5 o6
     refine drawQZ [0, 1, 3, 4, 5, 7, 9, 11, 12] (by decide +kernel) ?_
     conv=>whnf
     repeat' first
      |exact True.intro
      |(refine And.intro ?_ ?_ <;> conv=>whnf)
      |(refine needI (by clear o1 o2 o3 o4 o5 o6; dsimp only; omega) ?_; conv=>whnf)
      |(refine updI keyArr (sg, ix) (n : Int) rfl rfl ?_; conv=>whnf)
      |with_reducible exact o1
      |with_reducible exact o2
      |with_reducible exact o3
      |with_reducible exact o4
      |with_reducible exact o5
      |with_reducible exact o6
      |fail
    all_goals try first
     |exact True.intro
     |exact True
    all_goals
     repeat' ((first|refine nI ?_|refine aI ?_|refine tI ?_|refine fI ?_|fail);conv=>whnf)
     refine ⟨n + 1, ?_, by omega, by dsimp only; omega⟩
     dsimp only
     unfold bhL
     rw [hno 0 (by decide), hno 1 (by decide), hno 2 (by decide), hno 4 (by decide), hno 5 (by decide), hno 6 (by decide), hup 3 rfl]
     exact Sub.by_ [(12, .old 12), (210, .old 210), (211, .old 211), (212, .old 212), (213, .old 213), (214, .old 214), (215, .old 215), (216, .old 216)] _ 400 rfl (auto_) (auto_)
   ·apply once6
    case k =>
     intro o1 o2 o3 o4 o5 o6
     refine drawQZ [0, 1, 3, 4, 5, 7, 9, 11, 12] (by decide +kernel) ?_
     conv=>whnf
     repeat' first
      |exact True.intro
      |(refine And.intro ?_ ?_ <;> conv=>whnf)
      |(refine needI (by clear o1 o2 o3 o4 o5 o6; dsimp only; omega) ?_; conv=>whnf)
      |(refine updI keyArr (sg, ix) (n : Int) rfl rfl ?_; conv=>whnf)
      |with_reducible exact o1
      |with_reducible exact o2
      |with_reducible exact o3
      |with_reducible exact o4
      |with_reducible exact o5
      |with_reducible exact o6
      |fail
    all_goals try first
     |exact True.intro
     |exact True
    all_goals
     repeat' ((first|refine nI ?_|refine aI ?_|refine tI ?_|refine fI ?_|fail);conv=>whnf)
     refine ⟨n + 1, ?_, by omega, by dsimp only; omega⟩
     dsimp only
     unfold bhL
     rw [hno 0 (by decide), hno 1 (by decide), hno 2 (by decide), hno 3 (by decide), hno 5 (by decide), hno 6 (by decide), hup 4 rfl]
     exact Sub.by_ [(12, .old 12), (210, .old 210), (211, .old 211), (212, .old 212), (213, .old 213), (214, .old 214), (215, .old 215), (216, .old 216)] _ 400 rfl (auto_) (auto_)
   ·apply once6
    case k =>
     intro o1 o2 o3 o4 o5 o6
     refine drawQZ [0, 1, 3, 4, 5, 7, 9, 11, 12] (by decide +kernel) ?_
     conv=>whnf
     repeat' first
      |exact True.intro
      |(refine And.intro ?_ ?_ <;> conv=>whnf)
      |(refine needI (by clear o1 o2 o3 o4 o5 o6; dsimp only; omega) ?_; conv=>whnf)
      |(refine updI keyArr (sg, ix) (n : Int) rfl rfl ?_; conv=>whnf)
      |with_reducible exact o1
      |with_reducible exact o2
      |with_reducible exact o3
      |with_reducible exact o4
      |with_reducible exact o5
      |with_reducible exact o6
      |fail
    all_goals try first
     |exact True.intro
     |exact True
    all_goals
     repeat' ((first|refine nI ?_|refine aI ?_|refine tI ?_|refine fI ?_|fail);conv=>whnf)
     refine ⟨n + 1, ?_, by omega, by dsimp only; omega⟩
     dsimp only
     unfold bhL
     rw [hno 0 (by decide), hno 1 (by decide), hno 2 (by decide), hno 3 (by decide), hno 4 (by decide), hno 6 (by decide), hup 5 rfl]
     exact Sub.by_ [(12, .old 12), (210, .old 210), (211, .old 211), (212, .old 212), (213, .old 213), (214, .old 214), (215, .old 215), (216, .old 216)] _ 400 rfl (auto_) (auto_)
   ·apply once6
    case k =>
     intro o1 o2 o3 o4 o5 o6
     refine drawQZ [0, 1, 3, 4, 5, 7, 9, 11, 12] (by decide +kernel) ?_
     conv=>whnf
     repeat' first
      |exact True.intro
      |(refine And.intro ?_ ?_ <;> conv=>whnf)
      |(refine needI (by clear o1 o2 o3 o4 o5 o6; dsimp only; omega) ?_; conv=>whnf)
      |(refine updI keyArr (sg, ix) (n : Int) rfl rfl ?_; conv=>whnf)
      |with_reducible exact o1
      |with_reducible exact o2
      |with_reducible exact o3
      |with_reducible exact o4
      |with_reducible exact o5
      |with_reducible exact o6
      |fail
    all_goals try first
     |exact True.intro
     |exact True
    all_goals
     repeat' ((first|refine nI ?_|refine aI ?_|refine tI ?_|refine fI ?_|fail);conv=>whnf)
     refine ⟨n + 1, ?_, by omega, by dsimp only; omega⟩
     dsimp only
     unfold bhL
     rw [hno 0 (by decide), hno 1 (by decide), hno 2 (by decide), hno 3 (by decide), hno 4 (by decide), hno 5 (by decide), hup 6 rfl]
     exact Sub.by_ [(12, .old 12), (210, .old 210), (211, .old 211), (212, .old 212), (213, .old 213), (214, .old 214), (215, .old 215), (216, .old 216)] _ 400 rfl (auto_) (auto_)
  ·obtain rfl : n = vars.length:=by omega
   exact ⟨rfl, (auto_)⟩
theorem var_kinds {p : Pro} {q : Prp} {sch : List Int} {v : Vb} (h : v ∈ varL p q sch) : 0 ≤ v.kind ∧ v.kind < 7:=by
 unfold varL at h
 rcases List.mem_append.1 h with h | h
 ·rcases List.mem_append.1 h with h | h
  ·simp only [List.mem_cons, List.not_mem_nil, or_false] at h
   rcases h with rfl | rfl | rfl <;> exact ⟨by decide, by decide⟩
  ·unfold stV at h
   rcases List.mem_append.1 h with h | h
   ·obtain ⟨x, _, rfl⟩:=List.mem_map.1 h
    exact ⟨by dsimp only; omega, by dsimp only; omega⟩
   ·split at h
    ·obtain ⟨x, _, rfl⟩:=List.mem_map.1 h
     exact ⟨by dsimp only; omega, by dsimp only; omega⟩
    ·cases h
 ·obtain ⟨j, _, h⟩:=List.mem_flatMap.1 h
  obtain ⟨r, _, h⟩:=segV_mem h
  have:=(ruV_mem h).1
  omega
theorem sends_le {p : Pro} (hv : validE p = 0) (i : Nat) (hi : i < p.rules.length) : (p.rules.getD i rul0).send.length ≤ 60:=by
 have h:=not_big hv
 have h1 : ¬ bigR (p.rules.getD i rul0):=fun hb=>h (by unfold bigP; exact .inr (.inr (.inr (.inr (.inr (.inr (.inr (.inr (.inl ⟨i, hi, hb⟩)))))))))
 unfold bigR at h1
 omega
def litL : List Lin:=[⟨-1, 1, 0, 0⟩, ⟨0, 1, -1, 0⟩, ⟨0, 1, 0, -1⟩]
def paR (vars : List Vb) (ls : List Lin) : List Row:=ls.map fun l=>rwL vars (parW l)
theorem paR_snoc (vars : List Vb) (ls : List Lin) (l : Lin) : paR vars (ls ++ [l]) = paR vars ls ++ [rwL vars (parW l)]:=by unfold paR; rw [List.map_append]; rfl
theorem take_snoc (ls : List Lin) (x : Nat) (hx : x < ls.length) : ls.take (x + 1) = ls.take x ++ [ls.getD (x : Int).toNat lin0]:=by
 rw [tN, List.take_succ_eq_append_getElem hx, getD_elem lin0 hx]
def seR (p : Pro) (sch : List Int) (vars : List Vb) (n : Nat) : List Row:=((List.range n).flatMap (segL p sch)).map (rwL vars)
theorem seR_snoc (p : Pro) (sch : List Int) (vars : List Vb) (n : Nat) : seR p sch vars (n + 1) = seR p sch vars n ++ (segL p sch n).map (rwL vars):=by
 unfold seR
 rw [List.range_succ, List.flatMap_append, List.map_append]
 simp
theorem buildT (p : Pro) (q : Prp) (hq : propE p q = 0) (sch : List Int) (hs : schB (thrL p.rules).length sch) (number : Int) (hb : number ≤ 1000000) : PSpec Tryz.prog 39 [.pd (famC p q), .sl 0 encI sch, .int .i64 number]
  (fun u=>u = .agg [.int .i64 (varL p q sch).length, .sl row0 encRw (rowsB p q sch number)]):=by
 have vq:=vlq_of hq
 have hV:=vq.vld
 have w:=vld_of hV
 have wl:=w.len
 have hT:=w.thr
 have hsl:=sch_len hs
 have hvl:=varL_len hq hs
 have hnd:=varL_nodup hq sch
 have hbeg:=begP p q sch hq hs fun n hn=>var_kinds (mem_getD (l:=varL p q sch) vb0 hn)
 have hpar:=fun rows (hr : rows.length ≤ 1000000) l (hl : bndB l)=>parP p q sch (varL p q sch) rows hnd (by omega) hr l hl
 have hsta:=fun rows (hr : rows.length ≤ 1000000) kind hk l hl=>staP p q sch (varL p q sch) rows hnd (by omega) hr (by omega) kind hk l hl
 have hseg:=fun rows (hr : rows.length ≤ 100000) j hj=>segP p q sch (varL p q sch) rows hnd (by omega) hr (by omega) (by omega) (fun i hi=>by have:=sends_le hV i hi; omega) (by omega) (fun g hg=>(thr_ok hV hg).2) hs j hj
 have hvio:=fun rows (hr : rows.length ≤ 100000) (m : Nat) (hm : m ≤ 1000000)=>vioP p q sch (varL p q sch) rows hnd (by omega) hr (by omega) (by omega) (fun i hi=>by have:=sends_le hV i hi; omega) (by omega) hV
  (fun k=>⟨by have:=(vq.bad k).1; omega, fun i hi=>by
   have c:=cnt_parts vq k hi
   have:=set_len c.1
   omega⟩)
  (by
   rcases vq.kind with k | k
   ·have:=vq.shp; omega
   ·have:=set_len (vq.goal k).1; omega)
  (fun i hi=>⟨fun g hg=>(rule_guard (w.rul i hi) hg).2, by have:=guards_2' hV i hi; omega⟩) m hm
 have hbl : ∀ l ∈ parL p, bndB l:=parL_b hV
 have hblit : ∀ x : Nat, x < 3 → bndB (litL.getD (x : Int).toNat lin0):=fun x hx=>hbl _ (by
  unfold parL
  rw [tN]
  exact List.mem_append_left _ (List.mem_append_left _ (mem_getD (l:=litL) lin0 hx)))
 have hbres : ∀ x : Nat, x < p.resilience.length → bndB (p.resilience.getD (x : Int).toNat lin0):=fun x hx=>hbl _ (by
  unfold parL
  rw [tN]
  exact List.mem_append_right _ (mem_getD (l:=p.resilience) lin0 hx))
 have fB : ∀ a b c d : Int, -100 ≤ a ∧ a ≤ 100 → -100 ≤ b ∧ b ≤ 100 → -100 ≤ c ∧ c ≤ 100 → -100 ≤ d ∧ d ≤ 100 → bndB ⟨a, b, c, d⟩:=fun a b c d h1 h2 h3 h4=>⟨h1, h2, h3, h4⟩
 have hsys : rowsB p q sch number = (paR (varL p q sch) (parL p) ++ (staL p).map (rwL (varL p q sch)) ++ seR p sch (varL p q sch) (sch.length + 1)) ++ (if 0 ≤ number then (vioL p q sch.length number.toNat).map (rwL (varL p q sch)) else []):=by
  unfold rowsB sysL paR seR
  rw [List.map_append, List.map_append, List.map_append, List.map_map]
  congr 1
  split <;> rfl
 have hsel : ∀ n, n ≤ sch.length + 1 → (seR p sch (varL p q sch) n).length ≤ 20 * n:=by
  intro n
  induction n with
  |zero=>intro _; simp [seR]
  |succ n ih =>
   intro hn
   rw [seR_snoc, List.length_append, List.length_map]
   have a:=ih (by omega)
   have : (segL p sch n).length ≤ 20:=by
    unfold segL
    rw [List.length_append, List.length_append]
    split <;> split <;> simp <;> omega
   omega
 have hpal : (paR (varL p q sch) (parL p)).length ≤ 9:=by unfold paR parL; rw [List.length_map, List.length_append, List.length_append]; split <;> simp <;> omega
 have hstl : ((staL p).map (rwL (varL p q sch))).length ≤ 4:=by unfold staL; rw [List.length_map, List.length_append]; split <;> simp
 have hpe : parL p = litL ++ (if p.fault = 0 then [⟨0, 0, -1, 0⟩, ⟨0, 0, 0, -1⟩] else []) ++ p.resilience:=rfl
 rw [hsys]
 clear hsys hbl
 generalize hvv : varL p q sch = vars at *
 refine PSpec.intro tt_ok mx_ok Tryz.func39 rfl (by decide) ?_; (conv=>whnf)
 refine Spec.news 400 idB (bdL p q sch vars []) (.ptr 200 0) hbeg (auto_) rfl (by rintro u M' ⟨rfl, rfl⟩; exact ⟨(auto_), (auto_)⟩) ?_
 conv=>whnf
 refine bldI lin0 encLin litL rfl ?_
 conv=>whnf
 refine WPc.loopF tt_ok mx_ok (fun x : Nat=>x ≤ 3) (fun x=>[(21, .int .i64 (x : Int))]) (fun x=>[(6, .box 93 [.int .i64 0, .nilsl]), (19, .row 130 lin0 encLin litL)] ++ bdL p q sch vars (paR vars (litL.take x))) (fun x=>3 - x) 0 (Nat.zero_le _) ?_; conv=>whnf
 refine ⟨Sub.by_ ((6, .old 6) :: (19, .old 19) :: idB) _ 400 rfl (auto_) (auto_), ?_⟩
 rintro x hx
 conv=>whnf
 refine cmpI ?_ ?_ <;> (intro h1; conv=>whnf)
 ·have hx3 : x < 3:=by have : (litL.length : Int) = 3:=rfl; omega
  have hc:=hpar (paR vars (litL.take x)) (by unfold paR; rw [List.length_map, List.length_take]; omega) _ (hblit x hx3)
  rw [← paR_snoc, ← take_snoc litL x hx3] at hc
  repeat' ((first|refine nI ?_|refine aI ?_|refine tI ?_|refine fI ?_|fail);conv=>whnf)
  refine Spec.call idB (bdL p q sch vars (paR vars (litL.take x))) 400 rfl (auto_) (auto_) hc ?_
  rintro u M' ⟨rfl, rfl⟩
  refine ⟨mvK, bdN p q sch vars (paR vars (litL.take (x + 1))), .tup [], rfl, (auto_), trivial, ?_⟩
  conv=>whnf
  repeat' ((first|refine nI ?_|refine aI ?_|refine tI ?_|refine fI ?_|fail);conv=>whnf)
  refine ⟨x + 1, ?_, by omega, by dsimp only; omega⟩
  exact Sub.by_ [(6, .old 6), (19, .old 19), (200, .old 200), (201, .old 202), (210, .old 210), (211, .old 211), (212, .old 212), (213, .old 213), (214, .old 214), (215, .old 215), (216, .old 216)] _ 400 rfl (auto_) (auto_)
 ·obtain rfl : x = 3:=by have : (litL.length : Int) = 3:=rfl; omega
  rw [show litL.take 3 = litL from rfl]
  obtain ⟨LL, hLL⟩ : ∃ LL : List Lin, LL = litL ++ (if p.fault = 0 then [⟨0, 0, -1, 0⟩, ⟨0, 0, 0, -1⟩] else []):=⟨_, rfl⟩
  have hL1 : p.fault = 0 → LL = litL ++ ([⟨0, 0, -1, 0⟩] ++ [⟨0, 0, 0, -1⟩]):=fun h=>by rw [hLL, if_pos h]; rfl
  have hL2 : ¬ p.fault = 0 → LL = litL:=fun h=>by rw [hLL, if_neg h, List.append_nil]
  have hLl : LL.length ≤ 5:=by rw [hLL]; unfold litL; split <;> simp
  rw [← hLL] at hpe
  clear hLL
  apply once (A:=WPc Tryz.prog _ (.loop _) ([.pd (famC p q), .sl 0 encI sch, .int .i64 number, .top, .top, .top, .ptr 6 0, .ptr 200 0] ++ List.replicate 37 .top ++ [.sl lin0 encLin p.resilience, .int .i64 (p.resilience.length : Int), .int .i64 0] ++ List.replicate 39 .top) (Mem.ofL ((6, .box 93 [.int .i64 0, .nilsl]) :: bdL p q sch vars (paR vars LL))) _)
  case k =>
   intro hs0
   refine cmpI (fun hf=>?_) (fun hf=>?_)
   rotate_left
   ·conv=>whnf
    exact WPc.sub (by rw [hL2 hf]; exact Sub.by_ [(6, .old 6), (200, .old 200), (201, .old 201), (210, .old 210), (211, .old 211), (212, .old 212), (213, .old 213), (214, .old 214), (215, .old 215), (216, .old 216)] _ 400 rfl (auto_) (auto_)) hs0
   ·have c1:=hpar (paR vars litL) (by unfold paR litL; simp) ⟨0, 0, -1, 0⟩ (fB _ _ _ _ (by omega) (by omega) (by omega) (by omega))
    rw [← paR_snoc] at c1
    have c2:=hpar (paR vars (litL ++ [⟨0, 0, -1, 0⟩])) (by unfold paR litL; simp) ⟨0, 0, 0, -1⟩ (fB _ _ _ _ (by omega) (by omega) (by omega) (by omega))
    rw [← paR_snoc, List.append_assoc] at c2
    simp only [putD, putK, setD, List.set]
    refine opsK_nil ?_
    refine codeK_condT rfl ?_
    refine codeK_seqI ?_
    refine codeK_regI ?_
    refine ops_hand (.ptr 200 0) rfl (fun K' h=>?_) rfl ?_
    ·conv=>whnf
     exact h
    refine ops_hand (.agg (encLin ⟨0, 0, -1, 0⟩)) rfl (fun K' h=>?_) rfl ?_
    ·conv=>whnf
     exact h
    refine ops_callP rfl rfl ?_
    refine Spec.call idB (bdL p q sch vars (paR vars litL)) 400 rfl (auto_) (auto_) c1 ?_
    rintro u M' ⟨rfl, rfl⟩
    refine ⟨mvK, bdN p q sch vars (paR vars (litL ++ [⟨0, 0, -1, 0⟩])), .tup [], rfl, (auto_), trivial, ?_⟩
    simp only [putD, putK, setD, List.set]
    refine opsK_nil ?_
    refine codeK_regI ?_
    refine ops_hand (.ptr 200 0) rfl (fun K' h=>?_) rfl ?_
    ·conv=>whnf
     exact h
    refine ops_hand (.agg (encLin ⟨0, 0, 0, -1⟩)) rfl (fun K' h=>?_) rfl ?_
    ·conv=>whnf
     exact h
    refine ops_callP rfl rfl ?_
    refine Spec.call mvW (bdL p q sch vars (paR vars (litL ++ [⟨0, 0, -1, 0⟩]))) 400 rfl (auto_) (auto_) c2 ?_
    rintro u M' ⟨rfl, rfl⟩
    refine ⟨mvV3, bdH p q sch vars (paR vars (litL ++ ([⟨0, 0, -1, 0⟩] ++ [⟨0, 0, 0, -1⟩]))), .tup [], rfl, (auto_), trivial, ?_⟩
    simp only [putD, putK, setD, List.set]
    refine opsK_nil ?_
    conv=>whnf
    exact WPc.sub (by rw [hL1 hf]; exact Sub.by_ [(6, .old 6), (200, .old 200), (201, .old 203), (210, .old 210), (211, .old 211), (212, .old 212), (213, .old 213), (214, .old 214), (215, .old 215), (216, .old 216)] _ 400 rfl (auto_) (auto_)) hs0
  case h =>
   refine WPc.loopF tt_ok mx_ok (fun x : Nat=>x ≤ p.resilience.length) (fun x=>[(47, .int .i64 (x : Int))]) (fun x=>(6, .box 93 [.int .i64 0, .nilsl]) :: bdL p q sch vars (paR vars (LL ++ p.resilience.take x))) (fun x=>p.resilience.length - x) 0 (Nat.zero_le _) ?_; conv=>whnf
   refine ⟨by rw [List.take_zero, List.append_nil]; exact Sub.by_ ((6, .old 6) :: idB) _ 400 rfl (auto_) (auto_), ?_⟩
   rintro x hx
   conv=>whnf
   refine cmpI ?_ ?_ <;> (intro h1; conv=>whnf)
   ·have hxl : x < p.resilience.length:=by omega
    have hc:=hpar (paR vars (LL ++ p.resilience.take x)) (by unfold paR; simp only [List.length_map, List.length_append, List.length_take]; omega) _ (hbres x hxl)
    rw [← paR_snoc, List.append_assoc, ← take_snoc p.resilience x hxl] at hc
    repeat' ((first|refine nI ?_|refine aI ?_|refine tI ?_|refine fI ?_|fail);conv=>whnf)
    refine Spec.call idB (bdL p q sch vars (paR vars (LL ++ p.resilience.take x))) 400 rfl (auto_) (auto_) hc ?_
    rintro u M' ⟨rfl, rfl⟩
    refine ⟨mvK, bdN p q sch vars (paR vars (LL ++ p.resilience.take (x + 1))), .tup [], rfl, (auto_), trivial, ?_⟩
    conv=>whnf
    repeat' ((first|refine nI ?_|refine aI ?_|refine tI ?_|refine fI ?_|fail);conv=>whnf)
    refine ⟨x + 1, ?_, by omega, by dsimp only; omega⟩
    exact Sub.by_ [(6, .old 6), (200, .old 200), (201, .old 202), (210, .old 210), (211, .old 211), (212, .old 212), (213, .old 213), (214, .old 214), (215, .old 215), (216, .old 216)] _ 400 rfl (auto_) (auto_)
   ·obtain rfl : x = p.resilience.length:=by omega
    rw [List.take_length, ← hpe]
    generalize hPP : paR vars (parL p) = PA at *
    have c3:=hsta PA (by omega) 3 (by omega) ⟨0, 1, 0, -1⟩ (fB _ _ _ _ (by omega) (by omega) (by omega) (by omega))
    have hS1 : whB p → (staL p).map (rwL vars) = [rwL vars (staW 3 p.states.length 1 ⟨0, 1, 0, -1⟩), rwL vars (staW 3 p.states.length (-1) ⟨0, 1, 0, -1⟩)] ++ [rwL vars (staW 4 p.states.length 1 ⟨0, 0, 0, 1⟩), rwL vars (staW 4 p.states.length (-1) ⟨0, 0, 0, 1⟩)]:=fun h=>by unfold staL; rw [if_pos h]; rfl
    have hS2 : ¬ whB p → (staL p).map (rwL vars) = [rwL vars (staW 3 p.states.length 1 ⟨0, 1, 0, -1⟩), rwL vars (staW 3 p.states.length (-1) ⟨0, 1, 0, -1⟩)]:=fun h=>by unfold staL; rw [if_neg h]; rfl
    have c4:=hsta (PA ++ [rwL vars (staW 3 p.states.length 1 ⟨0, 1, 0, -1⟩), rwL vars (staW 3 p.states.length (-1) ⟨0, 1, 0, -1⟩)]) (by simp only [List.length_append, List.length_cons, List.length_nil]; omega) 4 (by omega) ⟨0, 0, 0, 1⟩ (fB _ _ _ _ (by omega) (by omega) (by omega) (by omega))
    rw [List.append_assoc] at c4
    generalize (staL p).map (rwL vars) = SA at *
    refine Spec.call idB (bdL p q sch vars PA) 400 rfl (auto_) (auto_) c3 ?_
    rintro u M' ⟨rfl, rfl⟩
    refine ⟨mvK, bdN p q sch vars (PA ++ [rwL vars (staW 3 p.states.length 1 ⟨0, 1, 0, -1⟩), rwL vars (staW 3 p.states.length (-1) ⟨0, 1, 0, -1⟩)]), .tup [], rfl, (auto_), trivial, ?_⟩
    conv=>whnf
    apply once (A:=WPc Tryz.prog _ (.loop _) ([.pd (famC p q), .sl 0 encI sch, .int .i64 number, .top, .top, .top, .ptr 6 0, .ptr 200 0] ++ List.replicate 57 .top ++ [.int .i64 ((sch.length : Int) + 1), .int .i64 0] ++ List.replicate 20 .top) (Mem.ofL ((6, .box 93 [.int .i64 0, .nilsl]) :: bdL p q sch vars (PA ++ SA))) _)
    case k =>
     intro hs1
     refine dC (hasFaultyF p q) (fun _=>?_) (fun _=>?_) <;> (conv=>whnf)
     ·rename_i hw
      rw [← hS1 hw] at c4
      refine Spec.call mvW (bdL p q sch vars (PA ++ [rwL vars (staW 3 p.states.length 1 ⟨0, 1, 0, -1⟩), rwL vars (staW 3 p.states.length (-1) ⟨0, 1, 0, -1⟩)])) 400 rfl (auto_) (auto_) c4 ?_
      rintro u M' ⟨rfl, rfl⟩
      refine ⟨mvV3, bdH p q sch vars (PA ++ SA), .tup [], rfl, (auto_), trivial, ?_⟩
      conv=>whnf
      repeat' ((first|refine nI ?_|refine aI ?_|refine tI ?_|refine fI ?_|fail);conv=>whnf)
      exact WPc.sub (Sub.by_ [(6, .old 6), (200, .old 200), (201, .old 203), (210, .old 210), (211, .old 211), (212, .old 212), (213, .old 213), (214, .old 214), (215, .old 215), (216, .old 216)] _ 400 rfl (auto_) (auto_)) hs1
     ·rename_i hw
      repeat' ((first|refine nI ?_|refine aI ?_|refine tI ?_|refine fI ?_|fail);conv=>whnf)
      exact WPc.sub (by rw [hS2 hw]; exact Sub.by_ [(6, .old 6), (200, .old 200), (201, .old 202), (210, .old 210), (211, .old 211), (212, .old 212), (213, .old 213), (214, .old 214), (215, .old 215), (216, .old 216)] _ 400 rfl (auto_) (auto_)) hs1
    case h =>
     refine WPc.loopF tt_ok mx_ok (fun x : Nat=>x ≤ sch.length + 1) (fun x=>[(66, .int .i64 (x : Int))]) (fun x=>(6, .box 93 [.int .i64 0, .nilsl]) :: bdL p q sch vars (PA ++ SA ++ seR p sch vars x)) (fun x=>sch.length + 1 - x) 0 (Nat.zero_le _) ?_; conv=>whnf
     refine ⟨by rw [show seR p sch vars 0 = [] from rfl, List.append_nil]; exact Sub.by_ ((6, .old 6) :: idB) _ 400 rfl (auto_) (auto_), ?_⟩
     rintro x hx
     conv=>whnf
     refine cmpI ?_ ?_ <;> (intro h1; conv=>whnf)
     ·have hxl : x ≤ sch.length:=by omega
      have hc:=hseg (PA ++ SA ++ seR p sch vars x) (by have:=hsel x (by omega); simp only [List.length_append]; omega) x hxl
      rw [List.append_assoc (PA ++ SA), ← seR_snoc] at hc
      repeat' ((first|refine nI ?_|refine aI ?_|refine tI ?_|refine fI ?_|fail);conv=>whnf)
      refine Spec.call idB (bdL p q sch vars (PA ++ SA ++ seR p sch vars x)) 400 rfl (auto_) (auto_) hc ?_
      rintro u M' ⟨rfl, rfl⟩
      refine ⟨mvK, bdN p q sch vars (PA ++ SA ++ seR p sch vars (x + 1)), .tup [], rfl, (auto_), trivial, ?_⟩
      conv=>whnf
      repeat' ((first|refine nI ?_|refine aI ?_|refine tI ?_|refine fI ?_|fail);conv=>whnf)
      refine ⟨x + 1, ?_, by omega, by dsimp only; omega⟩
      exact Sub.by_ [(6, .old 6), (200, .old 200), (201, .old 202), (210, .old 210), (211, .old 211), (212, .old 212), (213, .old 213), (214, .old 214), (215, .old 215), (216, .old 216)] _ 400 rfl (auto_) (auto_)
     ·obtain rfl : x = sch.length + 1:=by omega
      have hse:=hsel (sch.length + 1) (by omega)
      refine cmpI ?_ ?_ <;> (intro hz; conv=>whnf)
      ·rw [if_pos hz]
       have hc:=hvio (PA ++ SA ++ seR p sch vars (sch.length + 1)) (by simp only [List.length_append]; omega) number.toNat (by omega)
       rw [Int.toNat_of_nonneg hz] at hc
       refine Spec.call idB (bdL p q sch vars (PA ++ SA ++ seR p sch vars (sch.length + 1))) 400 rfl (auto_) (auto_) hc ?_
       rintro u M' ⟨rfl, rfl⟩
       refine ⟨mvK, bdN p q sch vars (PA ++ SA ++ seR p sch vars (sch.length + 1) ++ (vioL p q sch.length number.toNat).map (rwL vars)), .tup [], rfl, (auto_), trivial, ?_⟩
       conv=>whnf
       refine drawQ [0, 1, 2, 4, 5, 6, 8] (by decide +kernel) ?_
       conv=>whnf
       repeat' first
        |exact True.intro
        |(refine And.intro ?_ ?_ <;> conv=>whnf)
        |exact rfl
        |fail
      ·rw [if_neg hz, List.append_nil]
       refine drawQ [0, 1, 2, 4, 5, 6, 8] (by decide +kernel) ?_
       conv=>whnf
       repeat' first
        |exact True.intro
        |(refine And.intro ?_ ?_ <;> conv=>whnf)
        |exact rfl
        |fail
noncomputable def bldA (p : Pro) (q : Prp) (sch : List Int) (number : Int) : AV :=
 if chkE p q ≠ 0 then .tup [.agg [.int .i64 0, .nilsl], .int .i64 (chkE p q)]
 else if ¬ schB (thrL p.rules).length sch ∨ number < -1 ∨ (csN p q : Int) ≤ number then .tup [.agg [.int .i64 0, .nilsl], .int .i64 1]
 else .tup [.agg [.int .i64 (varL p q sch).length, .sl row0 encRw (rowsB p q sch number)], .int .i64 0]
theorem BuildF (p : Pro) (q : Prp) (hp : okP p) (hq : okQ q) (sch : List Int) (hl : sch.length ≤ 140737488355328) (number : Int) : PSpec Tryz.prog 33 [.agg (encP p), .agg (encQ q), .sl 0 encI sch, .int .i64 number] (fun u=>u = bldA p q sch number):=by
 have he:=bldA.eq_1 p q sch number
 refine PSpec.intro tt_ok mx_ok Tryz.func33 rfl (by decide) ?_; (conv=>whnf)
 refine boxP rfl ?_
 conv=>whnf
 refine boxP rfl ?_
 conv=>whnf
 refine Spec.of_pure (n:=5) (loadF p q hp hq) (by rfl) ?_
 rintro _ rfl
 by_cases h : chkE p q = 0
 ·rw [if_neg (by omega)] at he
  rw [loadA_z h]
  have hcs:=chk_cs h
  conv=>whnf
  refine fI ?_
  conv=>whnf
  refine dC (isSchemaF p q sch hl) (fun _=>?_) (fun _=>?_) <;> (conv=>whnf)
  ·rename_i hs
   refine cmpI ?_ ?_ <;> (intro h1; conv=>whnf)
   ·rw [if_pos (.inr (.inl h1))] at he
    exact ⟨he.symm, rfl⟩
   refine cmpI ?_ ?_ <;> (intro h2; conv=>whnf)
   ·rw [if_pos (.inr (.inr (by omega)))] at he
    exact ⟨he.symm, rfl⟩
   rw [if_neg (fun hh=>by rcases hh with hh | hh | hh; exact hh hs; omega; omega)] at he
   (refine oP (buildT p q (chk_prop h) sch hs number (by omega)) ?_; conv=>whnf)
   exact ⟨he.symm, rfl⟩
  ·rename_i hs
   rw [if_pos (.inl hs)] at he
   exact ⟨he.symm, rfl⟩
 ·rw [if_pos h] at he
  rw [loadA_e rfl h]
  conv=>whnf
  refine cmpT h ?_
  conv=>whnf
  exact ⟨he.symm, rfl⟩
end Go.Proofs.YtnjggjhkfncnlaaGreatDoor
