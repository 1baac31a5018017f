import Derived.Test.YtnjggjhkfncnlaaGreatDoorM6
set_option linter.unusedVariables false
set_option linter.unusedSimpArgs false
namespace Go.Proofs.YtnjggjhkfncnlaaGreatDoor
set_option maxRecDepth 100000
set_option maxHeartbeats 16000000
def cfgA (a b d e : Nat) (c : Cfg) : AV:=.agg [.row a c.shape.length 1, .row b c.states.length 1, .int .i64 c.correct, .row d c.sent.length 1, .row e c.faulty.length 1, .int .i64 c.value]
def cfgL (c : Cfg) : AV:=cfgA 1001 1002 1003 1004 c
def memC (c : Cfg) : List (Nat × Blk):=[(1001, rowN c.shape), (1002, rowN c.states), (1003, rowN c.sent), (1004, rowN c.faulty)]
def lmC (a b d e : Nat) : LMap:=[(1001, .old a), (1002, .old b), (1003, .old d), (1004, .old e)]
def hasC (a b d e : Nat) (c : Cfg) (M : Mem) : Prop:=M a = some (rowN c.shape) ∧ M b = some (rowN c.states) ∧ M d = some (rowN c.sent) ∧ M e = some (rowN c.faulty)
def isC (a b d e : Nat) (c : Cfg) : AV → Mem → Prop:=fun u M=>u = cfgA a b d e c ∧ hasC a b d e c M
def isT (a b d e : Nat) (c : Cfg) (n : Int) : AV → Mem → Prop:=fun u M=>u = .tup [cfgA a b d e c, .int .i64 n] ∧ hasC a b d e c M
theorem outM {a b d e : Nat} {c : Cfg} {M : Mem} (h : hasC a b d e c M) : memR (lmC a b d e) 400 M (memC c):=by
 obtain ⟨h1, h2, h3, h4⟩:=h
 refine ⟨?_, ?_, ?_, ?_, trivial⟩
 ·show blkR _ 400 (M a) _; rw [h1]; rfl
 ·show blkR _ 400 (M b) _; rw [h2]; rfl
 ·show blkR _ 400 (M d) _; rw [h3]; rfl
 ·show blkR _ 400 (M e) _; rw [h4]; rfl
theorem outC {a b d e : Nat} {c : Cfg} : ∀ u M', isC a b d e c u M' → memR (lmC a b d e) 400 M' (memC c) ∧ avR (lmC a b d e) 400 u (cfgL c):=by
 rintro _ M' ⟨rfl, h⟩
 exact ⟨outM h, by simp [avR, avRs, lmC, lmFind, cfgA, cfgL]⟩
theorem outU {a b d e : Nat} {c : Cfg} {m : Int} : ∀ u M', isT a b d e c m u M' → memR (lmC a b d e) 400 M' (memC c) ∧ avR (lmC a b d e) 400 u (.tup [cfgL c, .int .i64 m]):=by
 rintro _ M' ⟨rfl, h⟩
 exact ⟨outM h, by simp [avR, avRs, lmC, lmFind, cfgA, cfgL]⟩
theorem out1 {ℓ a : Nat} {l : List Int} : ∀ u M', (u = .row a l.length 1 ∧ M' a = some (rowN l)) → memR [(ℓ, .old a)] 400 M' [(ℓ, rowN l)] ∧ avR [(ℓ, .old a)] 400 u (.row ℓ l.length 1):=by
 rintro _ M' ⟨rfl, h⟩
 constructor
 ·simp [memR, lmFind, blkR, h, rowN]
 ·simp [avR, lmFind]
theorem cloneL (c : Cfg) (hw : wideB c = false) : Spec Tryz.prog 121 [.agg (encC c)] (Mem.ofL []) (isC 5 9 13 17 c):=by
 have hc:=wide_le hw
 refine Spec.intro tt_ok mx_ok [] Tryz.func121 rfl (by decide) ?_
 conv=>whnf
 refine boxL ?_
 conv=>whnf
 refine nI ?_
 conv=>whnf
 refine nI ?_
 conv=>whnf
 refine nI ?_
 conv=>whnf
 refine nI ?_
 conv=>whnf
 exact ⟨rfl, rfl, rfl, rfl, rfl⟩
theorem copyIntsL (l : List Int) (hl : l.length ≤ 1000000) : Spec Tryz.prog 210 [.sl 0 encI l] (Mem.ofL []) (fun u M=>u = .row 5 l.length 1 ∧ M 5 = some (rowN l)):=by
 refine Spec.intro tt_ok mx_ok [] Tryz.func210 rfl (by decide) ?_
 conv=>whnf
 refine bldI 0 encI [] rfl ?_
 conv=>whnf
 refine appI _ rfl (by simp only [List.length_nil]; omega) ?_
 conv=>whnf
 exact ⟨by show AV.row 5 (0 + l.length) 1 = _; rw [Nat.zero_add], rfl⟩
theorem copyL (c : Cfg) (hw : wideB c = false) : Spec Tryz.prog 155 [.agg (encC c)] (Mem.ofL []) (isC 1001 1002 1003 1004 c):=by
 have hc:=wide_le hw
 refine Spec.intro tt_ok mx_ok [] Tryz.func155 rfl (by decide) ?_
 conv=>whnf
 refine boxP rfl ?_
 conv=>whnf
 refine drawF (by decide +kernel) ?_
 conv=>whnf
 refine callLN 400 [(1001, .old 5)] [(1001, rowN c.shape)] (.row 1001 c.shape.length 1) (copyIntsL c.shape (by omega)) (auto_) rfl rfl out1 ?_
 conv=>whnf
 refine callLN 400 [(1002, .old 5)] [(1002, rowN c.states)] (.row 1002 c.states.length 1) (copyIntsL c.states (by omega)) (auto_) rfl rfl out1 ?_
 conv=>whnf
 refine callLN 400 [(1003, .old 5)] [(1003, rowN c.sent)] (.row 1003 c.sent.length 1) (copyIntsL c.sent (by omega)) (auto_) rfl rfl out1 ?_
 conv=>whnf
 refine callLN 400 [(1004, .old 5)] [(1004, rowN c.faulty)] (.row 1004 c.faulty.length 1) (copyIntsL c.faulty (by omega)) (auto_) rfl rfl out1 ?_
 conv=>whnf
 exact ⟨rfl, rfl, rfl, rfl, rfl⟩
def stG (c : Cfg) (r : Rul) (x : Stp) (j : Nat) : Int:=if (j : Int) = x.process then r.dst else if (r.kind = 2 ∨ r.kind = 5) ∧ (j : Int) = x.partner then r.pto else if r.kind = 3 then r.response.getD (c.states.getD j 0).toNat 0 else c.states.getD j 0
def stN (c : Cfg) (r : Rul) (x : Stp) : List Int:=(List.range c.states.length).map (stG c r x)
def bumpL (l : List Int) : List Int → List Int
 |[]=>l
 |m :: ms=>bumpL (l.set m.toNat (l.getD m.toNat 0 + 1)) ms
theorem bumpL_snoc : ∀ (ms : List Int) (l : List Int) (m : Int), bumpL l (ms ++ [m]) = (bumpL l ms).set m.toNat ((bumpL l ms).getD m.toNat 0 + 1)
 |[], _, _=>rfl
 |a :: ms, l, m=>bumpL_snoc ms _ m
theorem bumpL_up {l ms : List Int} {k : Nat} (h : k < ms.length) : bumpL l (ms.take (k + 1)) = (bumpL l (ms.take k)).set (ms.getD k 0).toNat ((bumpL l (ms.take k)).getD (ms.getD k 0).toNat 0 + 1):=by
 have e : ms.getD k 0 = ms[k]:=by rw [gD, gL h]; rfl
 rw [List.take_succ_eq_append_getElem h, ← e, bumpL_snoc]
theorem bumpL_len : ∀ (ms l : List Int), (bumpL l ms).length = l.length
 |[], _=>rfl
 |a :: ms, l=>by rw [bumpL, bumpL_len ms]; simp
theorem bumpL_b : ∀ (ms l : List Int) (b : Int), (∀ j, 0 ≤ l.getD j 0 ∧ l.getD j 0 ≤ b) → ∀ j, 0 ≤ (bumpL l ms).getD j 0 ∧ (bumpL l ms).getD j 0 ≤ b + ms.length
 |[], l, b, h, j=>by have:=h j; simp only [bumpL, List.length_nil]; omega
 |a :: ms, l, b, h, j=>by
  have:=bumpL_b ms (l.set a.toNat (l.getD a.toNat 0 + 1)) (b + 1) (fun i=>by
   have h1:=h i
   have h2:=h a.toNat
   rw [getD_set]
   split <;> omega) j
  rw [bumpL, List.length_cons]
  omega
theorem inR_all {l : List Int} (h : inR l 1048577) : ∀ j, 0 ≤ l.getD j 0 ∧ l.getD j 0 ≤ 1048576:=fun j=>by
 by_cases hj : j < l.length
 ·have:=h j hj; omega
 ·rw [gD, List.getElem?_eq_none (by omega)]
  exact ⟨by decide, by decide⟩
def sndB (l ms : List Int) : Prop:=∀ k, k < ms.length → (bumpL l (ms.take (k + 1))).getD (ms.getD k 0).toNat 0 ≤ 1048576
def apC (c : Cfg) (r : Rul) (x : Stp) : Cfg:=⟨c.shape, stN c r x, c.correct, if x.process < c.correct then bumpL c.sent r.send else c.sent, if x.process < c.correct then c.faulty else bumpL c.faulty r.send, if r.write = -1 then c.value else r.write⟩
def apB (c : Cfg) (r : Rul) (x : Stp) : Prop:=if x.process < c.correct then sndB c.sent r.send else sndB c.faulty r.send
noncomputable instance decAp (c : Cfg) (r : Rul) (x : Stp) : Decidable (apB c r x):=Classical.propDecidable _
theorem stN_len (c : Cfg) (r : Rul) (x : Stp) : (stN c r x).length = c.states.length:=by simp [stN]
theorem st_of {c : Cfg} {r : Rul} {x : Stp} {l : List Int} (hl : l.length = c.states.length) (h : ∀ j, j < c.states.length → l.getD j 0 = stG c r x j) : l = stN c r x:=list_of hl h
theorem RulOk.send {p : Pro} {r : Rul} (h : RulOk p r) : inR r.send p.messages.length:=by
 by_cases k1 : r.kind = 1
 ·have:=h.kin
  unfold kindE at this
  rw [if_pos k1] at this
  exact (setE_ok (orL_zero this (setE r.send p.messages.length) (by simp))).1
 ·have hs:=h.sur
  unfold surB at hs
  intro j hj
  omega
theorem RulOk.resp {p : Pro} {r : Rul} (h : RulOk p r) (hk : r.kind = 3) : r.response.length = p.states.length ∧ inR r.response p.states.length:=by
 have:=h.kin
 unfold kindE at this
 rw [if_neg (by omega), if_neg (by omega), if_pos hk] at this
 have:=orL_zero this (respE r.response p.states.length) (by simp)
 unfold respE at this
 by_cases h1 : (r.response.length : Int) ≠ p.states.length
 ·rw [if_pos h1] at this; omega
 ·rw [if_neg h1] at this
  by_cases h2 : inR r.response p.states.length
  ·exact ⟨by omega, h2⟩
  ·rw [if_neg h2] at this; omega
theorem validE_fault {p : Pro} (h : validE p = 0) : 0 ≤ p.fault ∧ p.fault ≤ 3:=by
 unfold validE at h
 by_cases h1 : ¬ validN p.name
 ·rw [if_pos h1] at h; omega
 rw [if_neg h1] at h
 by_cases h2 : p.topology < 1 ∨ 4 < p.topology ∨ p.fault < 0 ∨ 3 < p.fault
 ·rw [if_pos h2] at h; omega
 ·omega
def rpA (l : List Cfg) (e : Int) : AV:=.tup [.sl cfg0 encC l, .int .i64 e]
def rowC (l : List Cfg) : Blk:=.row 36 cfg0 encC l
def rpU (v : AV) : AV → Prop:=fun u=>u = v ∨ ∃ e, u = .tup [.nilsl, .int .i64 e] ∧ v = rpA [] e
theorem PSpec.rp {f : FuncId} {args : List AV} {v : AV} (hf : ∃ l e, v = rpA l e) (h : PSpec Tryz.prog f args (rpU v)) : PSpec Tryz.prog f args (fun u=>u = v):=by
 obtain ⟨l, e, rfl⟩:=hf
 refine PSpec.sub h ?_
 rintro u (rfl | ⟨e', rfl, h2⟩)
 ·exact ⟨_, rfl, auto_, rfl⟩
 ·rw [h2]; exact ⟨_, rfl, auto_, rfl⟩
end Go.Proofs.YtnjggjhkfncnlaaGreatDoor
