import Derived.Test.YtnjggjhkfncnlaaGreatDoorTab
import Derived.Test.YtnjggjhkfncnlaaGreatDoorP1
import Derived.Test.YtnjggjhkfncnlaaGreatDoorFtE
import Derived.Test.YtnjggjhkfncnlaaGreatDoorV1
set_option linter.unusedVariables false
set_option linter.unusedSimpArgs false
namespace Go.Proofs.YtnjggjhkfncnlaaGreatDoor
set_option maxRecDepth 100000
def kyA (k : Int × Int) : Value:=.agg #[.int .i64 k.1, .int .i64 k.2]
theorem keyArr : KeyOk Tryz.prog 77 kyA:=by
 have ht : Tryz.prog.underlying 3 = some (.int .i64):=Tryz.underlying3
 have hta:=Tryz.underlying77
 have hag : ∀ w, (isAgg 3).run Tryz.prog w = .ok false w:=fun w=>by simp [isAgg, run_underlying ht]
 have hsz : ∀ w, (Go.sizeOf 3).run Tryz.prog w = .ok 1 w:=fun w=>by
  obtain ⟨i, hi⟩ : ∃ i, tt.find 3 = some i:=⟨_, rfl⟩
  have:=TOk.size tt_ok hi w
  cases hi
  exact this
 refine KeyOk.ask Tryz.underlying77 ?_ ?_ ?_ ?_ ?_
 ·rintro ⟨a, b⟩ ⟨c, d⟩ h
  simpa [kyA] using h
 ·rintro e ⟨a, b⟩ w
  have h4 : ∀ n w, (Instr.checkKey e (n + 2) 77 (kyA (a, b))).run Tryz.prog w = .ok () w:=fun n w=>by
   simp [Instr.checkKey, run_underlying hta, run_underlying ht, kyA, part, hag, hsz, Std.Legacy.Range.forIn_eq_forIn_range', List.range', List.forIn_cons, List.forIn_nil]
  exact h4 9998 w
 ·intro a b; rfl
 ·rintro ⟨a, b⟩ ⟨c, d⟩ w
  refine ⟨decide (a = c ∧ b = d), ?_, by simp [kyA]⟩
  have hI : ∀ n w (x y : Int), (Op.equalIn (n + 1) 3 (.int .i64 x) (.int .i64 y)).run Tryz.prog w = .ok (x == y) w:=fun n w x y=>by
   rw [Op.equalIn]
   simp [run_underlying ht]
  have h4 : ∀ n w, (Op.equalIn (n + 2) 77 (kyA (a, b)) (kyA (c, d))).run Tryz.prog w = .ok (decide (a = c ∧ b = d)) w:=fun n w=>by
   rw [Op.equalIn]
   simp only [Sem.run_bind, run_underlying hta, Result.andThen_ok, kyA]
   simp [part, hag, hsz, hI, Std.Legacy.Range.forIn_eq_forIn_range', List.range', List.forIn_cons, List.forIn_nil]
   by_cases h1 : a = c <;> by_cases h2 : b = d <;> simp [h1, h2]
  exact h4 9998 w
 ·rintro ⟨a, b⟩
  have h4 : ∀ n, Instr.sameBits (n + 1) (kyA (a, b)) (kyA (a, b)) = true:=fun n=>by simp [kyA, Instr.sameBits]
  exact h4 9999
set_option maxHeartbeats 16000000
theorem Spec.idn {P : Program} {f : FuncId} {args : List AV} {L0 L : List (Nat × Blk)} {u0 : AV} (hb : (keysB (idL L) L && oldsL L (idL L) && keepB (idL L) (L0.map (·.1))) = true) (hu : avR (idL L) 400 u0 u0)
  (h : Spec P f args (Mem.ofL L0) (fun u M=>u = u0 ∧ memR (idL L) 400 M L)) : Spec P f args (Mem.ofL L0) (fun u M=>u = u0 ∧ M = Mem.ofL L) :=
 h.norm 400 fun u M' ⟨e, hM⟩=>⟨L, u0, hb, hM, by rw [e]; exact hu, rfl, rfl⟩
abbrev bdC (p : Pro) (q : Prp) (sch : List Int) (n lr nr : Nat) : List AV:=[.pd (famC p q), .sl 0 encI sch, .int .i64 n, .mp 210, .mp 211, .mp 212, .mp 213, .mp 214, .mp 215, .mp 216, .row lr nr 2]
noncomputable abbrev mpB (vars : List Vb) (k : Int) : Blk:=.map kyA (Value.int .i64) (plN vars k vars.length)
noncomputable abbrev bdL (p : Pro) (q : Prp) (sch : List Int) (vars : List Vb) (rows : List Row) : List (Nat × Blk) :=
 [(200, .box 76 (bdC p q sch vars.length 201 rows.length)), (201, .row 154 row0 encRw rows), (210, mpB vars 0), (211, mpB vars 1), (212, mpB vars 2), (213, mpB vars 3), (214, mpB vars 4), (215, mpB vars 5), (216, mpB vars 6)]
noncomputable abbrev adL (p : Pro) (q : Prp) (sch : List Int) (vars : List Vb) (rows : List Row) (co : Co) (c : Int) : List (Nat × Blk) :=
 [(200, .box 76 (bdC p q sch vars.length 201 rows.length)), (201, .row 154 row0 encRw rows), (210, mpB vars 0), (211, mpB vars 1), (212, mpB vars 2), (213, mpB vars 3), (214, mpB vars 4), (215, mpB vars 5), (216, mpB vars 6),
  (220, .box 154 [.row 221 vars.length 1, .int .i64 c]), (221, .row 3 0 encI (vars.map co))]
def idA : LMap:=[(200, .old 200), (201, .old 201), (210, .old 210), (211, .old 211), (212, .old 212), (213, .old 213), (214, .old 214), (215, .old 215), (216, .old 216), (220, .old 220), (221, .old 221)]
def cwB (X : Int) (co : Co) : Prop:=∀ v, -X ≤ co v ∧ co v ≤ X
theorem addP (p : Pro) (q : Prp) (sch : List Int) (vars : List Vb) (rows : List Row) (co : Co) (c : Int) (hn : vars.Nodup) (hv : vars.length ≤ 1000000) (kind : Nat) (hk : kind < 7) (seg idx k : Int) (hb : cwB 1152921504606846976 co) (hf : -1152921504606846976 ≤ k ∧ k ≤ 1152921504606846976) :
  Spec Tryz.prog 167 [.ptr 200 0, .ptr 220 0, .int .i64 k, .int .i64 (kind : Int), .int .i64 seg, .int .i64 idx] (Mem.ofL (adL p q sch vars rows co c))
   (fun u M=>u = .tup [] ∧ M = Mem.ofL (adL p q sch vars rows (addC co ⟨kind, seg, idx⟩ k) c)):=by
 have hs : ∀ b, plN vars kind vars.length (seg, idx) = some b → ∃ m : Nat, b = m ∧ m < vars.length ∧ (vars.map co).set m ((vars.map co).getD m 0 + k) = vars.map (addC co ⟨kind, seg, idx⟩ k):=by
  intro b h
  obtain ⟨m, rfl, hm, e⟩:=plN_some h
  refine ⟨m, rfl, hm, ?_⟩
  rw [row_get co hm, row_add co k hn hm, e]
 have hno : plN vars kind vars.length (seg, idx) = none → vars.map co = vars.map (addC co ⟨kind, seg, idx⟩ k):=fun h=>(row_skip co k (plN_notin h)).symm
 have hg : ∀ m, m < vars.length → -1152921504606846976 ≤ (vars.map co).getD m 0 ∧ (vars.map co).getD m 0 ≤ 1152921504606846976:=fun m hm=>by rw [row_get co hm]; exact hb _
 have hl : (vars.map co).length = vars.length:=List.length_map ..
 refine Spec.idn rfl trivial ?_
 generalize hA : vars.map co = A at hs hno hg hl
 generalize hB : vars.map (addC co ⟨kind, seg, idx⟩ k) = B at hs hno
 have eA : adL p q sch vars rows co c = [(200, .box 76 (bdC p q sch vars.length 201 rows.length)), (201, .row 154 row0 encRw rows), (210, mpB vars 0), (211, mpB vars 1), (212, mpB vars 2), (213, mpB vars 3), (214, mpB vars 4), (215, mpB vars 5), (216, mpB vars 6),
  (220, .box 154 [.row 221 vars.length 1, .int .i64 c]), (221, .row 3 0 encI A)]:=by unfold adL; rw [hA]
 have eB : adL p q sch vars rows (addC co ⟨kind, seg, idx⟩ k) c = [(200, .box 76 (bdC p q sch vars.length 201 rows.length)), (201, .row 154 row0 encRw rows), (210, mpB vars 0), (211, mpB vars 1), (212, mpB vars 2), (213, mpB vars 3), (214, mpB vars 4), (215, mpB vars 5), (216, mpB vars 6),
  (220, .box 154 [.row 221 vars.length 1, .int .i64 c]), (221, .row 3 0 encI B)]:=by unfold adL; rw [hB]
 rw [eA, eB]
 clear eA eB hA hB hb
 obtain rfl | rfl | rfl | rfl | rfl | rfl | rfl : kind = 0 ∨ kind = 1 ∨ kind = 2 ∨ kind = 3 ∨ kind = 4 ∨ kind = 5 ∨ kind = 6:=by omega
 all_goals
  refine Spec.intro tt_ok mx_ok [(200, .box 76 (bdC p q sch vars.length 201 rows.length)), (201, .row 154 row0 encRw rows), (210, mpB vars 0), (211, mpB vars 1), (212, mpB vars 2), (213, mpB vars 3), (214, mpB vars 4), (215, mpB vars 5), (216, mpB vars 6),
  (220, .box 154 [.row 221 vars.length 1, .int .i64 c]), (221, .row 3 0 encI A)] Tryz.func167 rfl (by decide) ?_
  (conv=>whnf)
  refine needI (by decide) ?_
  (conv=>whnf)
  refine lookI keyArr (seg, idx) rfl (fun b hb=>?_) (fun hb=>?_) <;> (conv=>whnf)
  ·obtain ⟨m, rfl, hm, e⟩:=hs b hb
   have h1:=hg m hm
   have h2 : -1152921504606846976 ≤ A.getD (m : Int).toNat 0 ∧ A.getD (m : Int).toNat 0 ≤ 1152921504606846976:=by rw [tN]; exact h1
   subst e
   repeat' ((first|refine nI ?_|refine aI ?_|refine tI ?_|refine fI ?_|fail);conv=>whnf)
   refine rowSetI (A.getD (m : Int).toNat 0 + k) rfl ?_
   (conv=>whnf)
   exact ⟨rfl, (auto_)⟩
  ·have e:=hno hb
   subst e
   exact ⟨rfl, (auto_)⟩
theorem addQ (p : Pro) (q : Prp) (sch : List Int) (vars : List Vb) (rows : List Row) (co : Co) (c : Int) (hn : vars.Nodup) (hv : vars.length ≤ 1000000) (kind : Int) (hk : 0 ≤ kind ∧ kind < 7) (seg idx k : Int) (hb : cwB 1152921504606846976 co) (hf : -1152921504606846976 ≤ k ∧ k ≤ 1152921504606846976) :
  Spec Tryz.prog 167 [.ptr 200 0, .ptr 220 0, .int .i64 k, .int .i64 kind, .int .i64 seg, .int .i64 idx] (Mem.ofL (adL p q sch vars rows co c))
   (fun u M=>u = .tup [] ∧ M = Mem.ofL (adL p q sch vars rows (addC co ⟨kind, seg, idx⟩ k) c)):=by
 obtain ⟨n, rfl⟩ : ∃ n : Nat, kind = n:=⟨kind.toNat, by omega⟩
 exact addP p q sch vars rows co c hn hv n (by omega) seg idx k hb hf
theorem cwB_add {X : Int} {co : Co} (h : cwB X co) (v0 : Vb) {k Y : Int} (hk : -Y ≤ k ∧ k ≤ Y) (hY : 0 ≤ Y) : cwB (X + Y) (addC co v0 k):=fun v=>by
 unfold addC
 have:=h v
 split <;> omega
theorem cwB_mono {X Y : Int} {co : Co} (h : cwB X co) (hX : X ≤ Y) : cwB Y co:=fun v=>by
 have:=h v
 omega
theorem bnd_mul {k a : Int} (hk : facB k) (ha : facB a) : -10000 ≤ k * a ∧ k * a ≤ 10000:=mul_ab hk ha
theorem linP (p : Pro) (q : Prp) (sch : List Int) (vars : List Vb) (rows : List Row) (co : Co) (c : Int) (hn : vars.Nodup) (hv : vars.length ≤ 1000000) (k : Int) (l : Lin) (hb : cwB 1099511627776 co) (hc : -1099511627776 ≤ c ∧ c ≤ 1099511627776) (hk : facB k) (hl : bndB l) :
  Spec Tryz.prog 166 [.ptr 200 0, .ptr 220 0, .int .i64 k, .agg (encLin l)] (Mem.ofL (adL p q sch vars rows co c))
   (fun u M=>u = .tup [] ∧ M = Mem.ofL (adL p q sch vars rows (scC co k (linC l)) (c + k * l.c))):=by
 obtain ⟨lc, ln, lt, lf⟩:=hl
 have b0:=bnd_mul hk lc
 have b1:=bnd_mul hk ln
 have b2:=bnd_mul hk lt
 have b3:=bnd_mul hk lf
 have e1:=cwB_add hb ⟨0, 0, 0⟩ (k:=k * l.n) (Y:=10000) (by omega) (by omega)
 have e2:=cwB_add e1 ⟨1, 0, 0⟩ (k:=k * l.t) (Y:=10000) (by omega) (by omega)
 have a1:=addQ p q sch vars rows co c hn hv 0 (by omega) 0 0 (k * l.n) (cwB_mono hb (by omega)) (by omega)
 have a2:=addQ p q sch vars rows _ c hn hv 1 (by omega) 0 0 (k * l.t) (cwB_mono e1 (by omega)) (by omega)
 have a3:=addQ p q sch vars rows _ c hn hv 2 (by omega) 0 0 (k * l.f) (cwB_mono e2 (by omega)) (by omega)
 rw [lin_add] at a3
 generalize addC co ⟨0, 0, 0⟩ (k * l.n) = d1 at *
 generalize addC d1 ⟨1, 0, 0⟩ (k * l.t) = d2 at *
 refine Spec.idn rfl trivial ?_
 refine Spec.intro tt_ok mx_ok (adL p q sch vars rows co c) Tryz.func166 rfl (by decide) ?_
 simp only [padK_eq]
 rw [show Tryz.f166.ntmps = 40 from rfl]
 simp only [codeK]
 simp only [opsK]
 rw [stepK_eq]
 simp only [gv, opnds, List.map_cons, List.map_nil, semK]
 conv=>whnf
 refine boxP rfl ?_
 conv=>whnf
 repeat' ((first|refine nI ?_|refine aI ?_|refine tI ?_|refine fI ?_|fail);conv=>whnf)
 refine Spec.call idA (adL p q sch vars rows co c) 400 rfl (auto_) (auto_) a1 ?_
 rintro u M' ⟨rfl, rfl⟩
 refine ⟨idA, adL p q sch vars rows d1 c, .tup [], rfl, (auto_), trivial, ?_⟩
 conv=>whnf
 repeat' ((first|refine nI ?_|refine aI ?_|refine tI ?_|refine fI ?_|fail);conv=>whnf)
 refine Spec.call idA (adL p q sch vars rows d1 c) 400 rfl (auto_) (auto_) a2 ?_
 rintro u M' ⟨rfl, rfl⟩
 refine ⟨idA, adL p q sch vars rows d2 c, .tup [], rfl, (auto_), trivial, ?_⟩
 conv=>whnf
 repeat' ((first|refine nI ?_|refine aI ?_|refine tI ?_|refine fI ?_|fail);conv=>whnf)
 refine Spec.call idA (adL p q sch vars rows d2 c) 400 rfl (auto_) (auto_) a3 ?_
 rintro u M' ⟨rfl, rfl⟩
 refine ⟨idA, adL p q sch vars rows (scC co k (linC l)) c, .tup [], rfl, (auto_), trivial, ?_⟩
 conv=>whnf
 refine drawI rfl ?_
 conv=>whnf
 repeat' ((first|refine nI ?_|refine aI ?_|refine tI ?_|refine fI ?_|fail);conv=>whnf)
 exact ⟨rfl, (auto_)⟩
theorem aft_zero (rs : List Rul) (start fire state : Int) (co : Co) (k : Int) : addC co ⟨start, 0, state⟩ k = scC co k (aftS rs start fire state 0 0):=by
 funext v
 have h : ¬ firB rs.length fire (0 : Nat) 0 v:=by unfold firB; omega
 unfold addC scC aftS
 rw [if_neg h]
 by_cases e : v = ⟨start, 0, state⟩
 ·rw [if_pos e, if_pos e]; omega
 ·rw [if_neg e, if_neg e]; omega
theorem snt_zero (rs : List Rul) (fire message : Int) (co : Co) (k : Int) : scC co k (sntS rs fire message 0 0) = co:=by
 funext v
 have h : ¬ (firB rs.length fire (0 : Nat) 0 v ∧ message ∈ (rs.getD v.idx.toNat rul0).send):=by unfold firB; omega
 unfold scC sntS
 rw [if_neg h]; omega
theorem cwB_sc {X : Int} {co d : Co} {k : Int} (h : cwB X co) (hk : facB k) (hd : ∀ v, -2 ≤ d v ∧ d v ≤ 2) : cwB (X + 200) (scC co k d):=fun v=>by
 have a:=h v
 have b : -(100 * 2) ≤ k * d v ∧ k * d v ≤ 100 * 2:=mul_ab hk (hd v)
 unfold scC
 omega
theorem procP (p : Pro) (q : Prp) (sch : List Int) (vars : List Vb) (rows : List Row) (co : Co) (c : Int) (hn : vars.Nodup) (hv : vars.length ≤ 1000000) (k state : Int) (start fire seg : Nat) (hst : start < 7) (hfi : fire < 7) (hsg : seg ≤ 10) (hr : p.rules.length ≤ 1000) (hb : cwB 1099511627776 co) (hk : facB k) :
  Spec Tryz.prog 169 [.ptr 200 0, .ptr 220 0, .int .i64 k, .int .i64 (start : Int), .int .i64 (fire : Int), .int .i64 state, .int .i64 (seg : Int)] (Mem.ofL (adL p q sch vars rows co c))
   (fun u M=>u = .tup [] ∧ M = Mem.ofL (adL p q sch vars rows (scC co k (aftS p.rules start fire state (seg + 1) 0)) c)):=by
 have hkb : -100 ≤ k ∧ k ≤ 100:=hk
 have a0:=addP p q sch vars rows co c hn hv start hst 0 state k (cwB_mono hb (by omega)) (by omega)
 rw [aft_zero p.rules start fire state] at a0
 have hFb : ∀ j i, cwB 1099511627976 (scC co k (aftS p.rules start fire state j i)):=fun j i=>cwB_sc hb hk fun v=>by have:=aft_b p.rules start fire state j i v; omega
 have hFn:=fun j i=>aft_next p.rules start fire state j i co k
 have hFe:=fun j=>congrArg (scC co k) (aft_end p.rules start fire state j)
 obtain ⟨F, hF⟩ : ∃ F : Nat → Nat → Co, F = fun j i=>scC co k (aftS p.rules start fire state j i):=⟨_, rfl⟩
 have e0 : ∀ j i, scC co k (aftS p.rules start fire state j i) = F j i:=fun j i=>by rw [hF]
 simp only [e0] at a0 hFb hFn hFe
 rw [e0]
 clear e0 hF
 refine Spec.idn rfl trivial ?_
 refine Spec.intro tt_ok mx_ok (adL p q sch vars rows co c) Tryz.func169 rfl (by decide) ?_
 conv=>whnf
 refine Spec.call idA (adL p q sch vars rows co c) 400 rfl (auto_) (auto_) a0 ?_
 rintro u M' ⟨rfl, rfl⟩
 refine ⟨idA, adL p q sch vars rows (F 0 0) c, .tup [], rfl, (auto_), trivial, ?_⟩
 conv=>whnf
 repeat' ((first|refine nI ?_|refine aI ?_|refine tI ?_|refine fI ?_|fail);conv=>whnf)
 refine WPc.loopF tt_ok mx_ok (fun j : Nat=>j ≤ seg + 1) (fun j=>[(25, .int .i64 (j : Int))]) (fun j=>adL p q sch vars rows (F j 0) c) (fun j=>seg + 1 - j) 0 (Nat.zero_le _) ?_; conv=>whnf
 refine ⟨Sub.by_ idA _ 400 rfl (auto_) (auto_), ?_⟩
 rintro j hj
 conv=>whnf
 refine cmpI ?_ ?_ <;> (intro h1; conv=>whnf)
 ·repeat' ((first|refine nI ?_|refine aI ?_|refine tI ?_|refine fI ?_|fail);conv=>whnf)
  refine WPc.loopF tt_ok mx_ok (fun i : Nat=>i ≤ p.rules.length) (fun i=>[(37, .int .i64 (i : Int))]) (fun i=>adL p q sch vars rows (F j i) c) (fun i=>p.rules.length - i) 0 (Nat.zero_le _) ?_; conv=>whnf
  refine ⟨Sub.by_ idA _ 400 rfl (auto_) (auto_), ?_⟩
  rintro i hi
  conv=>whnf
  refine cmpI ?_ ?_ <;> (intro h2; conv=>whnf)
  ·have hlt : i < p.rules.length:=by omega
   have hs:=hFn j i
   unfold stepA at hs
   dsimp only at hs
   repeat' ((first|refine nI ?_|refine aI ?_|refine tI ?_|refine fI ?_|fail);conv=>whnf)
   refine cmpI ?_ ?_ <;> (intro h3; conv=>whnf)
   ·rw [tN] at h3; rw [if_pos h3] at hs
    have a1:=addP p q sch vars rows (F j i) c hn hv fire hfi j i k (cwB_mono (hFb j i) (by omega)) (by omega)
    have hG:=cwB_add (hFb j i) ⟨fire, j, i⟩ (k:=k) (Y:=100) hkb (by omega)
    generalize addC (F j i) ⟨fire, j, i⟩ k = G at a1 hs hG
    repeat' ((first|refine nI ?_|refine aI ?_|refine tI ?_|refine fI ?_|fail);conv=>whnf)
    refine Spec.call idA (adL p q sch vars rows (F j i) c) 400 rfl (auto_) (auto_) a1 ?_
    rintro u M' ⟨rfl, rfl⟩
    refine ⟨idA, adL p q sch vars rows G c, .tup [], rfl, (auto_), trivial, ?_⟩
    conv=>whnf
    repeat' ((first|refine nI ?_|refine aI ?_|refine tI ?_|refine fI ?_|fail);conv=>whnf)
    refine cmpI ?_ ?_ <;> (intro h4; conv=>whnf)
    ·rw [tN] at h4; rw [if_pos h4] at hs
     have a2:=addP p q sch vars rows G c hn hv fire hfi j i (-k) (cwB_mono hG (by omega)) (by omega)
     rw [← hs] at a2
     repeat' ((first|refine nI ?_|refine aI ?_|refine tI ?_|refine fI ?_|fail);conv=>whnf)
     refine Spec.call idA (adL p q sch vars rows G c) 400 rfl (auto_) (auto_) a2 ?_
     rintro u M' ⟨rfl, rfl⟩
     refine ⟨idA, adL p q sch vars rows (F j (i + 1)) c, .tup [], rfl, (auto_), trivial, ?_⟩
     conv=>whnf
     repeat' ((first|refine nI ?_|refine aI ?_|refine tI ?_|refine fI ?_|fail);conv=>whnf)
     refine ⟨i + 1, ?_, by omega, by dsimp only; omega⟩
     exact Sub.by_ idA _ 400 rfl (auto_) (auto_)
    ·rw [tN] at h4; rw [if_neg h4] at hs
     repeat' ((first|refine nI ?_|refine aI ?_|refine tI ?_|refine fI ?_|fail);conv=>whnf)
     refine ⟨i + 1, ?_, by omega, by dsimp only; omega⟩
     dsimp only
     rw [hs]
     exact Sub.by_ idA _ 400 rfl (auto_) (auto_)
   ·rw [tN] at h3; rw [if_neg h3] at hs
    repeat' ((first|refine nI ?_|refine aI ?_|refine tI ?_|refine fI ?_|fail);conv=>whnf)
    refine cmpI ?_ ?_ <;> (intro h4; conv=>whnf)
    ·rw [tN] at h4; rw [if_pos h4] at hs
     have a2:=addP p q sch vars rows (F j i) c hn hv fire hfi j i (-k) (cwB_mono (hFb j i) (by omega)) (by omega)
     rw [← hs] at a2
     repeat' ((first|refine nI ?_|refine aI ?_|refine tI ?_|refine fI ?_|fail);conv=>whnf)
     refine Spec.call idA (adL p q sch vars rows (F j i) c) 400 rfl (auto_) (auto_) a2 ?_
     rintro u M' ⟨rfl, rfl⟩
     refine ⟨idA, adL p q sch vars rows (F j (i + 1)) c, .tup [], rfl, (auto_), trivial, ?_⟩
     conv=>whnf
     repeat' ((first|refine nI ?_|refine aI ?_|refine tI ?_|refine fI ?_|fail);conv=>whnf)
     refine ⟨i + 1, ?_, by omega, by dsimp only; omega⟩
     exact Sub.by_ idA _ 400 rfl (auto_) (auto_)
    ·rw [tN] at h4; rw [if_neg h4] at hs
     repeat' ((first|refine nI ?_|refine aI ?_|refine tI ?_|refine fI ?_|fail);conv=>whnf)
     refine ⟨i + 1, ?_, by omega, by dsimp only; omega⟩
     dsimp only
     rw [hs]
     exact Sub.by_ idA _ 400 rfl (auto_) (auto_)
  ·repeat' ((first|refine nI ?_|refine aI ?_|refine tI ?_|refine fI ?_|fail);conv=>whnf)
   refine ⟨j + 1, ?_, by omega, by dsimp only; omega⟩
   obtain rfl : i = p.rules.length:=by omega
   dsimp only
   rw [← hFe j]
   exact Sub.by_ idA _ 400 rfl (auto_) (auto_)
 ·obtain rfl : j = seg + 1:=by omega
  exact ⟨rfl, (auto_)⟩
theorem sentP (p : Pro) (q : Prp) (sch : List Int) (vars : List Vb) (rows : List Row) (co : Co) (c : Int) (hn : vars.Nodup) (hv : vars.length ≤ 1000000) (k message : Int) (fire seg : Nat) (hfi : fire < 7) (hsg : seg ≤ 10) (hr : p.rules.length ≤ 1000) (hsd : ∀ i, i < p.rules.length → (p.rules.getD i rul0).send.length ≤ 1000000) (hb : cwB 1099511627776 co) (hk : facB k) :
  Spec Tryz.prog 168 [.ptr 200 0, .ptr 220 0, .int .i64 k, .int .i64 (fire : Int), .int .i64 message, .int .i64 (seg : Int)] (Mem.ofL (adL p q sch vars rows co c))
   (fun u M=>u = .tup [] ∧ M = Mem.ofL (adL p q sch vars rows (scC co k (sntS p.rules fire message seg 0)) c)):=by
 have hkb : -100 ≤ k ∧ k ≤ 100:=hk
 have hF0:=snt_zero p.rules fire message co k
 have hFb : ∀ j i, cwB 1099511627976 (scC co k (sntS p.rules fire message j i)):=fun j i=>cwB_sc hb hk fun v=>by have:=snt_b p.rules fire message j i v; omega
 have hFn:=fun j i=>snt_next p.rules fire message j i co k
 have hFe:=fun j=>congrArg (scC co k) (snt_end p.rules fire message j)
 obtain ⟨F, hF⟩ : ∃ F : Nat → Nat → Co, F = fun j i=>scC co k (sntS p.rules fire message j i):=⟨_, rfl⟩
 have e0 : ∀ j i, scC co k (sntS p.rules fire message j i) = F j i:=fun j i=>by rw [hF]
 simp only [e0] at hF0 hFb hFn hFe
 rw [e0]
 clear e0 hF
 subst hF0
 refine Spec.idn rfl trivial ?_
 refine Spec.intro tt_ok mx_ok (adL p q sch vars rows (F 0 0) c) Tryz.func168 rfl (by decide) ?_
 conv=>whnf
 refine WPc.loopF tt_ok mx_ok (fun j : Nat=>j ≤ seg) (fun j=>[(16, .int .i64 (j : Int))]) (fun j=>adL p q sch vars rows (F j 0) c) (fun j=>seg - j) 0 (Nat.zero_le _) ?_; conv=>whnf
 refine ⟨Sub.by_ idA _ 400 rfl (auto_) (auto_), ?_⟩
 rintro j hj
 conv=>whnf
 refine cmpI ?_ ?_ <;> (intro h1; conv=>whnf)
 ·repeat' ((first|refine nI ?_|refine aI ?_|refine tI ?_|refine fI ?_|fail);conv=>whnf)
  refine WPc.loopF tt_ok mx_ok (fun i : Nat=>i ≤ p.rules.length) (fun i=>[(28, .int .i64 (i : Int))]) (fun i=>adL p q sch vars rows (F j i) c) (fun i=>p.rules.length - i) 0 (Nat.zero_le _) ?_; conv=>whnf
  refine ⟨Sub.by_ idA _ 400 rfl (auto_) (auto_), ?_⟩
  rintro i hi
  conv=>whnf
  refine cmpI ?_ ?_ <;> (intro h2; conv=>whnf)
  ·have hlt : i < p.rules.length:=by omega
   have hs:=hFn j i
   repeat' ((first|refine nI ?_|refine aI ?_|refine tI ?_|refine fI ?_|fail);conv=>whnf)
   refine dC (iContainsF (p.rules.getD i rul0).send message (Nat.le_trans (hsd i hlt) (by omega))) (fun _=>?_) (fun _=>?_) <;> (conv=>whnf)
   ·rename_i h3
    rw [if_pos h3] at hs
    have a1:=addP p q sch vars rows (F j i) c hn hv fire hfi j i k (cwB_mono (hFb j i) (by omega)) (by omega)
    rw [← hs] at a1
    repeat' ((first|refine nI ?_|refine aI ?_|refine tI ?_|refine fI ?_|fail);conv=>whnf)
    refine Spec.call idA (adL p q sch vars rows (F j i) c) 400 rfl (auto_) (auto_) a1 ?_
    rintro u M' ⟨rfl, rfl⟩
    refine ⟨idA, adL p q sch vars rows (F j (i + 1)) c, .tup [], rfl, (auto_), trivial, ?_⟩
    conv=>whnf
    repeat' ((first|refine nI ?_|refine aI ?_|refine tI ?_|refine fI ?_|fail);conv=>whnf)
    refine ⟨i + 1, ?_, by omega, by dsimp only; omega⟩
    exact Sub.by_ idA _ 400 rfl (auto_) (auto_)
   ·rename_i h3
    rw [if_neg h3] at hs
    repeat' ((first|refine nI ?_|refine aI ?_|refine tI ?_|refine fI ?_|fail);conv=>whnf)
    refine ⟨i + 1, ?_, by omega, by dsimp only; omega⟩
    dsimp only
    rw [hs]
    exact Sub.by_ idA _ 400 rfl (auto_) (auto_)
  ·repeat' ((first|refine nI ?_|refine aI ?_|refine tI ?_|refine fI ?_|fail);conv=>whnf)
   refine ⟨j + 1, ?_, by omega, by dsimp only; omega⟩
   obtain rfl : i = p.rules.length:=by omega
   dsimp only
   rw [← hFe j]
   exact Sub.by_ idA _ 400 rfl (auto_) (auto_)
 ·obtain rfl : j = seg:=by omega
  exact ⟨rfl, (auto_)⟩
def idB : LMap:=[(200, .old 200), (201, .old 201), (210, .old 210), (211, .old 211), (212, .old 212), (213, .old 213), (214, .old 214), (215, .old 215), (216, .old 216)]
noncomputable abbrev bdN (p : Pro) (q : Prp) (sch : List Int) (vars : List Vb) (rows : List Row) : List (Nat × Blk) :=
 [(200, .box 76 (bdC p q sch vars.length 202 rows.length)), (201, .dead), (202, .row 154 row0 encRw rows), (210, mpB vars 0), (211, mpB vars 1), (212, mpB vars 2), (213, mpB vars 3), (214, mpB vars 4), (215, mpB vars 5), (216, mpB vars 6)]
theorem zero_row (vars : List Vb) : List.replicate vars.length (0 : Int) = vars.map zC:=by
 apply List.ext_getElem
 ·simp
 ·intro i h1 h2; simp [zC]
theorem rowP (p : Pro) (q : Prp) (sch : List Int) (vars : List Vb) (rows : List Row) (hv : vars.length ≤ 1000000) :
  Spec Tryz.prog 165 [.ptr 200 0] (Mem.ofL (bdL p q sch vars rows))
   (fun u M=>u = .agg [.row 221 vars.length 1, .int .i64 0] ∧ M = Mem.ofL (bdL p q sch vars rows ++ [(221, .row 3 0 encI (vars.map zC))])):=by
 rw [← zero_row]
 refine Spec.renorm 400 (R:=fun u M=>u = .agg [.row 7 vars.length 1, .int .i64 0] ∧ memR (idB ++ [(221, .old 7)]) 400 M (bdL p q sch vars rows ++ [(221, .row 3 0 encI (List.replicate vars.length (0 : Int)))])) ?_ ?_
 case refine_2 =>
  rintro u M ⟨rfl, hM⟩
  exact ⟨idB ++ [(221, .old 7)], _, _, rfl, hM, (auto_), rfl, rfl⟩
 refine Spec.intro tt_ok mx_ok (bdL p q sch vars rows) Tryz.func165 rfl (by decide) ?_
 conv=>whnf
 refine mkI 0 encI 0 rfl (by dsimp only; omega) ?_
 conv=>whnf
 exact ⟨rfl, (auto_)⟩
theorem parP (p : Pro) (q : Prp) (sch : List Int) (vars : List Vb) (rows : List Row) (hn : vars.Nodup) (hv : vars.length ≤ 1000000) (hr : rows.length ≤ 1000000) (l : Lin) (hl : bndB l) :
  Spec Tryz.prog 92 [.ptr 200 0, .agg (encLin l)] (Mem.ofL (bdL p q sch vars rows))
   (fun u M=>u = .tup [] ∧ M = Mem.ofL (bdN p q sch vars (rows ++ [rwL vars (parW l)]))):=by
 have hz : cwB 1099511627776 zC:=fun v=>by unfold zC; omega
 have a1:=linP p q sch vars rows zC 0 hn hv 1 l hz (by omega) (by unfold facB; omega) hl
 have e1 : scC zC 1 (linC l) = linC l:=by funext v; unfold scC zC; omega
 have e2 : 0 + 1 * l.c = l.c:=by omega
 rw [e1, e2] at a1
 refine Spec.renorm 400 (R:=fun u M=>u = .tup [] ∧ memR ((202, .old 17) :: idB) 400 M (bdN p q sch vars (rows ++ [rwL vars (parW l)]))) ?_ ?_
 case refine_2 =>
  rintro u M ⟨rfl, hM⟩
  exact ⟨(202, .old 17) :: idB, _, .tup [], rfl, hM, trivial, rfl, rfl⟩
 refine Spec.intro tt_ok mx_ok (bdL p q sch vars rows) Tryz.func92 rfl (by decide) ?_
 simp only [padK_eq]
 rw [show Tryz.f92.ntmps = 20 from rfl]
 simp only [codeK]
 simp only [opsK]
 rw [stepK_eq]
 simp only [gv, opnds, List.map_cons, List.map_nil, semK]
 conv=>whnf
 refine boxP rfl ?_
 conv=>whnf
 refine Spec.call idB (bdL p q sch vars rows) 400 rfl (auto_) (auto_) (rowP p q sch vars rows hv) ?_
 rintro u M' ⟨rfl, rfl⟩
 refine ⟨idB ++ [(221, .old 221)], bdL p q sch vars rows ++ [(221, .row 3 0 encI (vars.map zC))], .agg [.row 221 vars.length 1, .int .i64 0], rfl, (auto_), (auto_), ?_⟩
 conv=>whnf
 refine Spec.call (idB ++ [(220, .old 4), (221, .old 221)]) (adL p q sch vars rows zC 0) 400 rfl (auto_) (auto_) a1 ?_
 rintro u M' ⟨rfl, rfl⟩
 refine ⟨idB ++ [(4, .old 220), (221, .old 221)], bdL p q sch vars rows ++ [(4, .box 154 [.row 221 vars.length 1, .int .i64 l.c]), (221, .row 3 0 encI (vars.map (linC l)))], .tup [], rfl, (auto_), trivial, ?_⟩
 conv=>whnf
 refine drawE ?_
 conv=>whnf
 repeat' first
  |exact True.intro
  |(refine And.intro ?_ ?_ <;> conv=>whnf)
  |(refine bldI row0 encRw [rwL vars (parW l)] rfl ?_; conv=>whnf)
  |(refine leakN ?_; conv=>whnf)
  |(refine appI [rwL vars (parW l)] rfl lI ?_; conv=>whnf)
  |exact rfl
  |exact (List.length_append ..).symm
  |fail
def qtB : Op → Bool
 |.move _ | .fieldAddr _ _ _ | .nilCheck _ | .indexAddr _ _ _ | .build _ _ | .field _ _ _=>true
 |_=>false
def usesB (d : Nat) (xs : List Operand) : Bool:=xs.any fun x=>match x with
 |.tmp t=>Nat.beq t d
 |_=>false
def edgeB (x : Oper) (q : Nat) : Bool:=x.after.toList.any fun e=>Region.binds .any e && Nat.beq e.on q
def dneB (d : Nat) : Option Tmp → Bool
 |some e=>!(Nat.beq e d)
 |none=>true
def qOkB (all : List Oper) (q : Nat) : Bool:=match all[q]? with
 |none=>false
 |some o=>match o.dst with
  |none=>false
  |some d=>qtB o.op && o.guard.isNone && (List.range all.length).all fun j=>Nat.beq j q || match all[j]? with
   |none=>true
   |some x=>x.guard.isNone && dneB d x.dst && (!(usesB d (opnds x.op)) || edgeB x q) && (match x.dst with | none=>true | some e=>!(usesB e (opnds o.op)) || edgeB o j)
def fstQ : List Nat → List Nat → Option Nat
 |[], _=>none
 |q :: qs, l=>match l.any (Nat.beq q) with
  |true=>some q
  |false=>fstQ qs l
def qstK (tt : TT) (all : List Oper) (q : Nat) (fr : List AV) (k1 : List AV → Prop) (k2 : Prop) : Prop:=match all[q]? with
 |none=>k2
 |some o=>avsK fr (opnds o.op) fun us=>match evN tt o.op us with
  |.val u=>forceK u fun u=>putD fr o.dst u k1
  |_=>k2
def ordsQ (P : Program) (tt : TT) (d : Option DMode) (all : List Oper) (qs : List Nat) (K : List AV → Mem → Prop) : Nat → List Nat → List AV → Mem → Prop
 |0, done, fr, M=>match rdyK all done with
  |[]=>K fr M
  |_ :: _=>False
 |n + 1, done, fr, M=>match rdyK all done with
  |[]=>K fr M
  |i :: l=>match fstQ qs (i :: l) with
   |none=>ordN (i :: l) fun j=>stO P tt d all j fr M (ordsQ P tt d all qs K n (j :: done))
   |some q=>qstK tt all q fr (fun fr'=>ordsQ P tt d all qs K n (q :: done) fr' M) (ordN (i :: l) fun j=>stO P tt d all j fr M (ordsQ P tt d all qs K n (j :: done)))
section
variable {P : Program} {tt : TT} {dm : Option DMode} {all : List Oper} {K K' : List AV → Mem → Prop} {fr : List AV} {M : Mem}
theorem fstQ_mem : ∀ {qs l : List Nat} {q : Nat}, fstQ qs l = some q → q ∈ qs ∧ q ∈ l
 |[], _, _, h=>by cases h
 |a :: qs, l, q, h=>by
  rw [fstQ] at h
  split at h
  ·rename_i ha
   cases h
   exact ⟨List.mem_cons_self, any_beq.1 ha⟩
  ·obtain ⟨h1, h2⟩:=fstQ_mem h
   exact ⟨List.mem_cons_of_mem _ h1, h2⟩
theorem uses_avOf {d : Nat} {u : AV} : ∀ {xs : List Operand}, usesB d xs = false → xs.map (avOf (fr.set d u)) = xs.map (avOf fr)
 |[], _=>rfl
 |x :: xs, h=>by
  unfold usesB at h
  rw [List.any_cons, Bool.or_eq_false_iff] at h
  rw [List.map_cons, List.map_cons, uses_avOf (xs:=xs) h.2]
  congr 1
  cases x with
  |tmp t =>
   have hne : t ≠ d:=fun e=>by subst e; simp at h
   simp only [avOf, gD, List.getElem?_set_ne (Ne.symm hne)]
  |const v=>rfl
  |func f=>rfl
  |global g=>rfl
theorem stepK_set {o : Oper} {d : Nat} {u : AV} (hg : o.guard = none) (hd : dneB d o.dst = true) (hu : usesB d (opnds o.op) = false) : stepK P tt dm all o (fr.set d u) M K = stepK P tt dm all o fr M fun fr' M'=>K (fr'.set d u) M':=by
 unfold stepK guardK
 rw [hg]
 simp only [avsK_eq, putD_eq]
 rw [uses_avOf hu]
 congr 1
 funext w M'
 congr 1
 cases hdst : o.dst with
 |none=>rfl
 |some e =>
  rw [hdst] at hd
  have hne : e ≠ d:=fun h=>by subst h; simp [dneB] at hd
  simp only [setD]
  exact List.set_comm _ _ (Ne.symm hne)
theorem stepK_congr {o : Oper} (hg : o.guard = none) (h : ∀ w M', K (setD fr o.dst w) M' = K' (setD fr o.dst w) M') : stepK P tt dm all o fr M K = stepK P tt dm all o fr M K':=by
 unfold stepK guardK
 rw [hg]
 simp only [avsK_eq, putD_eq, h]
theorem stepK_q {o : Oper} {d : Nat} {u : AV} (hg : o.guard = none) (hd : o.dst = some d) (hq : qtB o.op = true) (hu : evN tt o.op ((opnds o.op).map (avOf fr)) = .val u) : stepK P tt dm all o fr M K = K (fr.set d u) M:=by
 have hs : ∀ us K', semK P tt dm o us M K' = rsK (evN tt o.op us) fun u=>K' u M:=fun us K'=>by
  unfold semK
  unfold qtB at hq
  split at hq
  all_goals first
   |(rename_i e; rw [e]; cases dm with
     |none=>rfl
     |some r=>cases r <;> rfl)
   |exact absurd hq (by decide)
 unfold stepK guardK
 rw [hg]
 simp only [avsK_eq, putD_eq, hs, hu, hd, setD, rsK, forceK_eq]
theorem ordN_iff {f : Nat → Prop} : ∀ {l : List Nat}, ordN l f ↔ ∀ i ∈ l, f i
 |[]=>by simp [ordN]
 |i :: l=>by rw [ordN, ordN_iff]; simp
theorem rdyK_mem {done : List Nat} {i : Nat} : i ∈ rdyK all done ↔ i ∉ done ∧ ∃ o, all[i]? = some o ∧ ∀ e ∈ o.after.toList, Region.binds .any e = true → e.on < all.length ∧ e.on ∈ done:=by
 unfold rdyK
 rw [List.mem_filter, List.mem_range]
 constructor
 ·rintro ⟨h1, h2⟩
  rw [Bool.and_eq_true] at h2
  refine ⟨fun h=>?_, ?_⟩
  ·have:=h2.1; rw [any_beq.2 h] at this; cases this
  ·have h3:=h2.2
   cases ho : all[i]? with
   |none=>rw [ho] at h3; cases h3
   |some o =>
    rw [ho] at h3
    refine ⟨o, rfl, fun e he hb=>?_⟩
    have:=List.all_eq_true.1 h3 e he
    rw [hb] at this
    simpa [any_beq] using this
 ·rintro ⟨h1, o, ho, h2⟩
  have hlt : i < all.length:=by
   rcases Nat.lt_or_ge i all.length with h | h
   ·exact h
   ·rw [List.getElem?_eq_none h] at ho; cases ho
  refine ⟨hlt, ?_⟩
  rw [ho, Bool.and_eq_true]
  refine ⟨?_, List.all_eq_true.2 fun e he=>?_⟩
  ·cases hh : done.any (Nat.beq i) with
   |true=>exact absurd (any_beq.1 hh) h1
   |false=>rfl
  ·cases hb : Region.binds .any e with
   |false=>rfl
   |true =>
    obtain ⟨h3, h4⟩:=h2 e he hb
    have : done.any (Nat.beq e.on) = true:=any_beq.2 h4
    simp [h3, this]
theorem rdyK_congr {d1 d2 : List Nat} (h : ∀ i, i ∈ d1 ↔ i ∈ d2) : rdyK all d1 = rdyK all d2:=by
 have e : ∀ i, d1.any (Nat.beq i) = d2.any (Nat.beq i):=fun i=>by
  rw [Bool.eq_iff_iff, any_beq, any_beq, h]
 unfold rdyK
 simp only [e]
theorem ordsK_perm : ∀ (n : Nat) (d1 d2 : List Nat) (_ : ∀ i, i ∈ d1 ↔ i ∈ d2), ordsK P tt dm all K n d1 = ordsK P tt dm all K n d2
 |0, d1, d2, h=>by
  funext fr M
  rw [ordsK, ordsK, rdyK_congr h]
 |n + 1, d1, d2, h=>by
  funext fr M
  rw [ordsK, ordsK, rdyK_congr h]
  cases rdyK all d2 with
  |nil=>rfl
  |cons i l =>
   have e : ∀ j, ordsK P tt dm all K n (j :: d1) = ordsK P tt dm all K n (j :: d2):=fun j=>ordsK_perm n _ _ fun i=>by rw [List.mem_cons, List.mem_cons, h]
   simp only [e]
theorem ordsK_all {n : Nat} {done : List Nat} (h : rdyK all done ≠ []) : ordsK P tt dm all K (n + 1) done fr M ↔ ∀ j ∈ rdyK all done, stO P tt dm all j fr M (ordsK P tt dm all K n (j :: done)):=by
 rw [ordsK]
 cases hr : rdyK all done with
 |nil=>exact absurd hr h
 |cons i l=>exact ordN_iff
theorem stO_some {j : Nat} {o : Oper} (h : all[j]? = some o) : stO P tt dm all j fr M K = stepK P tt dm all o fr M K:=by
 unfold stO; rw [h]
theorem ordsK_q {q : Nat} {o : Oper} {d : Nat} (hok : qOkB all q = true) (ho : all[q]? = some o) (hd : o.dst = some d) : ∀ (n : Nat) (done : List Nat) (fr : List AV) (M : Mem) (u : AV), q ∈ rdyK all done → evN tt o.op ((opnds o.op).map (avOf fr)) = .val u →
  (ordsK P tt dm all K (n + 1) done fr M ↔ ordsK P tt dm all K n (q :: done) (fr.set d u) M):=by
 unfold qOkB at hok
 rw [ho] at hok
 simp only [hd, Bool.and_eq_true, Option.isNone_iff_eq_none] at hok
 obtain ⟨⟨hqt, hg⟩, hall⟩:=hok
 have hpair : ∀ j x, all[j]? = some x → j ≠ q → x.guard = none ∧ dneB d x.dst = true ∧ (usesB d (opnds x.op) = false ∨ edgeB x q = true) ∧ ∀ e, x.dst = some e → usesB e (opnds o.op) = false ∨ edgeB o j = true:=fun j x hx hne=>by
  have hj : j < all.length:=by
   rcases Nat.lt_or_ge j all.length with h | h
   ·exact h
   ·rw [List.getElem?_eq_none h] at hx; cases hx
  have:=List.all_eq_true.1 hall j (List.mem_range.2 hj)
  rw [hx] at this
  have hb : Nat.beq j q = false:=by cases h : Nat.beq j q with | false=>rfl | true=>exact absurd (Nat.eq_of_beq_eq_true h) hne
  simp only [hb, Bool.false_or, Bool.and_eq_true, Option.isNone_iff_eq_none, Bool.or_eq_true, Bool.not_eq_true'] at this
  obtain ⟨⟨⟨h1, h2⟩, h3⟩, h4⟩:=this
  refine ⟨h1, h2, h3, fun e he=>?_⟩
  rw [he] at h4
  simpa using h4
 have edge : ∀ {x : Oper} {k : Nat} {done : List Nat}, edgeB x k = true → (∀ e ∈ x.after.toList, Region.binds .any e = true → e.on < all.length ∧ e.on ∈ done) → k ∈ done:=fun {x k done} he h=>by
  unfold edgeB at he
  obtain ⟨e, hm, hb⟩:=List.any_eq_true.1 he
  rw [Bool.and_eq_true] at hb
  have:=(h e hm hb.1).2
  rwa [Nat.eq_of_beq_eq_true hb.2] at this
 intro n
 induction n with
 |zero =>
  intro done fr M u hq hu
  have hne : rdyK all done ≠ []:=List.ne_nil_of_mem hq
  rw [ordsK_all hne]
  constructor
  ·intro h
   have:=h q hq
   rw [stO_some ho, stepK_q hg hd hqt hu] at this
   exact this
  ·intro h j hj
   by_cases e : j = q
   ·subst e
    rw [stO_some ho, stepK_q hg hd hqt hu]
    exact h
   ·exfalso
    have hj2 : j ∈ rdyK all (q :: done):=by
     rw [rdyK_mem] at hj ⊢
     obtain ⟨h1, x, hx, h2⟩:=hj
     exact ⟨fun h=>by rcases List.mem_cons.1 h with h | h; exact e h; exact h1 h, x, hx, fun e he hb=>⟨(h2 e he hb).1, List.mem_cons_of_mem _ (h2 e he hb).2⟩⟩
    rw [ordsK] at h
    cases hr : rdyK all (q :: done) with
    |nil=>rw [hr] at hj2; cases hj2
    |cons a l=>rw [hr] at h; exact h
 |succ m ih =>
  intro done fr M u hq hu
  have hne : rdyK all done ≠ []:=List.ne_nil_of_mem hq
  rw [ordsK_all hne]
  constructor
  ·intro h
   have:=h q hq
   rw [stO_some ho, stepK_q hg hd hqt hu] at this
   exact this
  ·intro h j hj
   by_cases e : j = q
   ·subst e
    rw [stO_some ho, stepK_q hg hd hqt hu]
    exact h
   ·have hj':=rdyK_mem.1 hj
    have hq':=rdyK_mem.1 hq
    obtain ⟨h1, x, hx, h2⟩:=hj'
    obtain ⟨g1, o', ho', g2⟩:=hq'
    rw [ho] at ho'; cases ho'
    obtain ⟨p1, p2, p3, p4⟩:=hpair j x hx e
    have hj2 : j ∈ rdyK all (q :: done):=rdyK_mem.2 ⟨fun h=>by rcases List.mem_cons.1 h with h | h; exact e h; exact h1 h, x, hx, fun e he hb=>⟨(h2 e he hb).1, List.mem_cons_of_mem _ (h2 e he hb).2⟩⟩
    have hq2 : q ∈ rdyK all (j :: done):=rdyK_mem.2 ⟨fun h=>by rcases List.mem_cons.1 h with h | h; exact e h.symm; exact g1 h, o, ho, fun e he hb=>⟨(g2 e he hb).1, List.mem_cons_of_mem _ (g2 e he hb).2⟩⟩
    have hux : usesB d (opnds x.op) = false:=p3.resolve_right fun he=>g1 (edge he h2)
    have h3:=(ordsK_all (List.ne_nil_of_mem hj2)).1 h j hj2
    rw [stO_some hx, stepK_set p1 p2 hux] at h3
    rw [stO_some hx]
    refine Eq.mp (stepK_congr p1 fun w M'=>?_) h3
    rw [ordsK_perm m (j :: q :: done) (q :: j :: done) fun i=>by simp only [List.mem_cons]; exact ⟨fun h=>by rcases h with h | h | h <;> simp [h], fun h=>by rcases h with h | h | h <;> simp [h]⟩]
    refine propext (ih (j :: done) (setD fr x.dst w) M' u hq2 ?_).symm
    rw [← hu]
    congr 1
    cases hxd : x.dst with
    |none=>rfl
    |some e2 =>
     have : usesB e2 (opnds o.op) = false:=(p4 e2 hxd).resolve_right fun he=>h1 (edge he g2)
     exact uses_avOf this
theorem ordsQ_eq {qs : List Nat} (hqs : qs.all (qOkB all) = true) : ∀ (n : Nat) (done : List Nat), ordsQ P tt dm all qs K n done = ordsK P tt dm all K n done
 |0, done=>by
  funext fr M
  rw [ordsQ, ordsK]
  cases rdyK all done <;> rfl
 |n + 1, done=>by
  funext fr M
  have e : ∀ j, ordsQ P tt dm all qs K n (j :: done) = ordsK P tt dm all K n (j :: done):=fun j=>ordsQ_eq hqs n _
  rw [ordsQ]
  simp only [e]
  cases hr : rdyK all done with
  |nil=>rw [ordsK, hr]
  |cons i l =>
   have hk : ordsK P tt dm all K (n + 1) done fr M = ordN (i :: l) fun j=>stO P tt dm all j fr M (ordsK P tt dm all K n (j :: done)):=by rw [ordsK, hr]
   simp only
   cases hf : fstQ qs (i :: l) with
   |none=>exact hk.symm
   |some q =>
    simp only
    obtain ⟨h1, h2⟩:=fstQ_mem hf
    have hok:=List.all_eq_true.1 hqs q h1
    rw [← hk]
    unfold qstK
    cases ho : all[q]? with
    |none=>rfl
    |some o =>
     simp only [avsK_eq]
     cases hu : evN tt o.op ((opnds o.op).map (avOf fr)) with
     |val u =>
      simp only [forceK_eq, putD_eq]
      have hok':=hok
      unfold qOkB at hok'
      rw [ho] at hok'
      cases hd : o.dst with
      |none=>simp only [hd] at hok'; cases hok'
      |some d=>exact propext (ordsK_q hok ho hd n done fr M u (by rw [hr]; exact h2) hu).symm
     |_=>rfl
end
theorem drawQ {P : Program} {tt : TT} {ops : List Oper} {fr : List AV} {M : Mem} {K : List AV → Mem → Prop} (qs : List Nat) (hqs : qs.all (qOkB ops) = true) (h : ordsQ P tt (some .own) ops qs K ops.length [] fr M) : drawK P tt ops fr M K :=
 drawE (by rw [ordsQ_eq hqs] at h; exact h)
theorem drawQZ {P : Program} {tt : TT} {ops : List Oper} {fr : List AV} {M : Mem} {K : List AV → Mem → Prop} (qs : List Nat) (hqs : qs.all (qOkB ops) = true) (h : ordsQ P tt none ops qs K ops.length [] fr M) : drawK P tt ops fr M K :=
 drawZ (by rw [ordsQ_eq hqs] at h; exact h)
end Go.Proofs.YtnjggjhkfncnlaaGreatDoor
