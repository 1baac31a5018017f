import Derived.Test.YtnjggjhkfncnlaaGreatDoorFwJ
set_option linter.unusedVariables false
set_option linter.unusedSimpArgs false
namespace Go.Proofs.YtnjggjhkfncnlaaGreatDoor
set_option maxRecDepth 100000
set_option maxHeartbeats 16000000
def schA (p : Pro) (q : Prp) : AV:=if chkE p q = 0 then .tup [.sl [] encL (schL p), .int .i64 0] else .tup [.nilsl, .int .i64 (chkE p q)]
theorem schA_e {p : Pro} {q : Prp} (h : chkE p q ≠ 0) : schA p q = .tup [.nilsl, .int .i64 (chkE p q)]:=by unfold schA; rw [if_neg h]
theorem schA_z {p : Pro} {q : Prp} (h : chkE p q = 0) : schA p q = .tup [.sl [] encL (schL p), .int .i64 0]:=by unfold schA; rw [if_pos h]
theorem schB_nil (k : Nat) : schB k []:=fun i hi=>absurd hi (Nat.not_lt_zero _)
theorem pow_k3 {k m : Nat} (hk : k ≤ 3) (hm : m ≤ 3) : (k + 1) ^ m ≤ 64:=by
 have a : (k + 1) ^ m ≤ 4 ^ m:=Nat.pow_le_pow_left (by omega) m
 have b : 4 ^ m ≤ 4 ^ 3:=Nat.pow_le_pow_right (by omega) hm
 omega
theorem nilsl_sl {S : Store} {α : Type} (d : α) (enc : α → List AV) (v : Value) (h : RP S v .nilsl) : RP S v (.sl d enc []):=by
 cases h
 exact .sl d enc [] none 0 1 (fun _ _=>.int .i64 0) (by simp) (by simp) (by simp) (fun i j hi=>by simp at hi) (by simp) (fun i a j u hi=>by simp at hi)
theorem PSpec.weak {P : Program} {f : FuncId} {args args' : List AV} {R : AV → Prop} (h : PSpec P f args' R) (hw : ∀ S vs, RPs S vs args → RPs S vs args') : PSpec P f args R:=by
 rw [PSpec_iff] at *
 exact ⟨h.1, fun S F vs w h1 h2 h3 h4 hv=>h.2 S F vs w h1 h2 h3 h4 (hw S vs hv)⟩
def slN (l : List Int) (u : AV) : Prop:=(l = [] ∧ u = .nilsl) ∨ (l ≠ [] ∧ u = .sl 0 encI l)
theorem containsN {l : List Int} {u : AV} (h : slN l u) (s : Int) (hl : l.length ≤ 4503599627370496) : PSpec Tryz.prog 20 [u, .int .i64 s] (fun u=>u = .bool (decide (s ∈ l))):=by
 rcases h with ⟨rfl, rfl⟩ | ⟨_, rfl⟩
 ·exact (iContainsF [] s (by simp)).weak fun S vs hv=>by
   obtain ⟨v, vs', rfl, h1, h2⟩:=hv.cons_inv
   exact RPs.cons (nilsl_sl 0 encI v h1) h2
 ·exact iContainsF l s hl
theorem cloneN (l : List Int) (hl : l.length ≤ 1000) (h0 : l ≠ []) : Spec Tryz.prog 98 [.sl 0 encI l] (Mem.ofL []) (fun u M=>∃ ℓ, u = .row ℓ l.length 1 ∧ M ℓ = some (.row 3 0 encI l)):=by
 refine Spec.intro tt_ok mx_ok [] Tryz.func98 rfl (by decide) ?_
 conv=>whnf
 refine needI h0 ?_
 conv=>whnf
 refine bldI 0 encI [] rfl ?_
 conv=>whnf
 refine appI l rfl (by simp only [List.length_nil]; omega) ?_
 conv=>whnf
 exact ⟨7, congrArg (AV.row 7 · 1) (Nat.zero_add _), rfl⟩
theorem cloneZ : PSpec Tryz.prog 98 [.nilsl] (fun u=>u = .nilsl):=by
 refine PSpec.intro tt_ok mx_ok Tryz.func98 rfl (by decide) ?_; (conv=>whnf)
 conv=>whnf
 exact ⟨rfl, rfl⟩
def scL (p : Pro) (q : Prp) (outs : List (List Int)) : List (Nat × Blk):=[(200, .box 86 [.row 201 outs.length 1]), (201, rowL outs), (202, .box 169 [.fn 161 [.ptr 200 0, .pd [.pd (famC p q)], .ptr 202 0]])]
def scN (p : Pro) (q : Prp) (outs : List (List Int)) : List (Nat × Blk):=[(200, .box 86 [.row 204 outs.length 1]), (201, .dead), (204, rowL outs), (202, .box 169 [.fn 161 [.ptr 200 0, .pd [.pd (famC p q)], .ptr 202 0]])]
def exQ (p : Pro) (q : Prp) (m : Nat) : Prop:=∀ (at_ : List Int) (outs : List (List Int)), at_ ≠ [] → m ≤ 3 → schB (thrL p.rules).length at_ → (thrL p.rules).length - at_.length ≤ m → outs.length + ((thrL p.rules).length + 1) ^ m ≤ 1000000 →
  Spec Tryz.prog 161 [.sl 0 encI at_, .ptr 200 0, .pd [.pd (famC p q)], .ptr 202 0] (Mem.ofL (scL p q outs)) (fun u M=>u = .tup [] ∧ M = Mem.ofL (scN p q (outs ++ xtL (thrL p.rules).length m at_)))
theorem exS (p : Pro) (q : Prp) (hk : (thrL p.rules).length ≤ 3) (m : Nat) (ih : 0 < m → exQ p q (m - 1)) : exQ p q m:=by
 intro at_ outs h0 hm hs hl hb
 have hal:=sch_len hs
 have eL:=extL_eq hs hl
 have hx1:=fun i=>extT_len (thrL p.rules).length m at_ i
 have hx2:=fun i=>extT_up (thrL p.rules).length m at_ i
 have hx0:=extT_zero (thrL p.rules).length m at_ (outs ++ [at_])
 generalize hKd : (thrL p.rules).length = k at *
 have hp1 : 1 ≤ (k + 1) ^ m:=Nat.pow_pos (by omega)
 refine Spec.intro tt_ok mx_ok (scL p q outs) Tryz.func161 rfl (by decide) ?_
 conv=>whnf
 refine bldI [] encL [at_] rfl ?_
 conv=>whnf
 refine appI [at_] rfl lI ?_
 conv=>whnf
 refine WPc.loopF tt_ok mx_ok (fun i : Nat=>i ≤ k) (fun i=>[(6, .top), (8, .top), (9, .top), (15, .int .i64 (i : Int))]) (fun i=>scN p q (outs ++ [at_] ++ extT k m at_ i)) (fun i=>k - i) 0 (Nat.zero_le _) ?_; conv=>whnf
 refine ⟨by rw [hx0]; exact Sub.by_ [(200, .old 200), (201, .old 201), (204, .old 9), (202, .old 202)] _ 400 rfl (auto_) (auto_), ?_⟩
 rintro i hi
 conv=>whnf
 refine cmpI ?_ ?_ <;> (intro h1; conv=>whnf)
 ·have hik : i < k:=by omega
  have eu:=hx2 i
  refine dC (iContainsF at_ (i : Int) (by omega)) (fun _=>?_) (fun _=>?_) <;> (conv=>whnf)
  ·rename_i hm2
   rw [if_pos hm2, List.append_nil] at eu
   repeat' ((first|refine nI ?_|refine aI ?_|refine tI ?_|refine fI ?_|fail);conv=>whnf)
   refine ⟨i + 1, ?_, by omega, by dsimp only; omega⟩
   dsimp only
   rw [eu]
   exact Sub.by_ [(200, .old 200), (201, .old 201), (204, .old 204), (202, .old 202)] _ 400 rfl (auto_) (auto_)
  ·rename_i hm2
   rw [if_neg hm2] at eu
   have hm0 : 0 < m:=Nat.pos_of_ne_zero fun h0=>hm2 (sch_full hs (by omega) hik)
   have hx : (outs ++ [at_] ++ extT k m at_ i).length + (k + 1) ^ (m - 1) ≤ 1000000:=by
    have a:=hx1 i
    obtain ⟨n, rfl⟩ : ∃ n, m = n + 1:=⟨m - 1, by omega⟩
    rw [Nat.add_sub_cancel] at a ⊢
    rw [Nat.pow_succ] at hb
    have b : (i + 1) * (k + 1) ^ n ≤ k * (k + 1) ^ n:=Nat.mul_le_mul_right _ (by omega)
    have c : 1 ≤ (k + 1) ^ n:=Nat.pow_pos (by omega)
    simp only [List.length_append, List.length_cons, List.length_nil]
    rw [Nat.add_mul, Nat.one_mul] at b
    rw [Nat.mul_add, Nat.mul_one, Nat.mul_comm _ k] at hb
    omega
   have hc:=ih hm0 (at_ ++ [(i : Int)]) (outs ++ [at_] ++ extT k m at_ i) (by simp) (by omega) (by rw [hKd]; exact sch_snoc hs hik hm2) (by rw [hKd]; simp only [List.length_append, List.length_cons, List.length_nil]; omega) (by rw [hKd]; exact hx)
   rw [hKd] at hc
   refine drawE ?_
   conv=>whnf
   repeat' first
    |exact True.intro
    |(refine And.intro ?_ ?_ <;> conv=>whnf)
    |(refine Spec.fresh 24 (cloneN at_ (by omega) h0) rfl (auto_) ?_; conv=>whnf)
    |(refine bldI 0 encI [(i : Int)] rfl ?_; conv=>whnf)
    |(refine appI [(i : Int)] rfl lI ?_; conv=>whnf)
    |(refine leakN ?_; conv=>whnf)
    |fail
   all_goals first
    |(refine Spec.hand 27 rfl ?_
      refine Spec.call [(200, .old 200), (201, .old 204), (202, .old 202)] (scL p q (outs ++ [at_] ++ extT k m at_ i)) 400 rfl (auto_) (auto_) hc ?_
      rintro u M' ⟨rfl, rfl⟩
      refine ⟨[(200, .old 200), (204, .old 201), (205, .old 204), (202, .old 202)], [(200, .box 86 [.row 205 (outs ++ [at_] ++ extT k m at_ i ++ xtL k (m - 1) (at_ ++ [(i : Int)])).length 1]), (204, .dead), (205, rowL (outs ++ [at_] ++ extT k m at_ i ++ xtL k (m - 1) (at_ ++ [(i : Int)]))), (202, .box 169 [.fn 161 [.ptr 200 0, .pd [.pd (famC p q)], .ptr 202 0]])], .tup [], rfl, (auto_), trivial, ?_⟩
      conv=>whnf
      repeat' ((first|refine nI ?_|refine aI ?_|refine tI ?_|refine fI ?_|fail);conv=>whnf)
      refine ⟨i + 1, ?_, by omega, by dsimp only; omega⟩
      dsimp only
      rw [eu, ← List.append_assoc]
      exact Sub.by_ [(200, .old 200), (201, .old 201), (204, .old 205), (202, .old 202)] _ 400 rfl (auto_) (auto_))
    |trace_state
 ·obtain rfl : i = k:=by omega
  have e : outs ++ xtL i m at_ = outs ++ [at_] ++ extT i m at_ i:=by rw [eL, List.append_assoc]; rfl
  rw [e]
  exact ⟨rfl, rfl⟩
theorem exA (p : Pro) (q : Prp) (hk : (thrL p.rules).length ≤ 3) : ∀ m, exQ p q m
 |0=>exS p q hk 0 fun h=>absurd h (Nat.lt_irrefl _)
 |m + 1=>exS p q hk (m + 1) fun _=>exA p q hk m
theorem exRt (p : Pro) (q : Prp) (hk : (thrL p.rules).length ≤ 3) : Spec Tryz.prog 161 [.nilsl, .ptr 200 0, .pd [.pd (famC p q)], .ptr 202 0] (Mem.ofL (scL p q [])) (fun u M=>u = .tup [] ∧ M = Mem.ofL (scN p q (schL p))):=by
 have ih:=exA p q hk ((thrL p.rules).length - 1)
 have hz:=pow_k3 (k:=(thrL p.rules).length) (m:=(thrL p.rules).length) hk hk
 obtain ⟨m, hm', hm⟩ : ∃ m, m = (thrL p.rules).length ∧ m ≤ 3:=⟨_, rfl, hk⟩
 obtain ⟨outs, ho⟩ : ∃ outs : List (List Int), outs = []:=⟨_, rfl⟩
 obtain ⟨at_, ha⟩ : ∃ at_ : List Int, at_ = []:=⟨_, rfl⟩
 have hs : schB (thrL p.rules).length at_:=by rw [ha]; exact schB_nil _
 have hl : (thrL p.rules).length - at_.length ≤ m:=by omega
 have hb : outs.length + ((thrL p.rules).length + 1) ^ m ≤ 1000000:=by rw [ho, hm']; simp only [List.length_nil]; omega
 have hF : schL p = outs ++ xtL (thrL p.rules).length m at_:=by rw [ho, ha, hm']; rfl
 rw [hF, ← ho]
 rw [← hm'] at ih
 clear hF hz hm'
 have hal:=sch_len hs
 have eL:=extL_eq hs hl
 have hx1:=fun i=>extT_len (thrL p.rules).length m at_ i
 have hx2:=fun i=>extT_up (thrL p.rules).length m at_ i
 have hx0:=extT_zero (thrL p.rules).length m at_ (outs ++ [at_])
 generalize hKd : (thrL p.rules).length = k at *
 have hp1 : 1 ≤ (k + 1) ^ m:=Nat.pow_pos (by omega)
 refine Spec.intro tt_ok mx_ok (scL p q outs) Tryz.func161 rfl (by decide) ?_
 conv=>whnf
 refine bldW [] encL [at_] ⟨⟨.inr ⟨rfl, Int, 0, encI, by rw [ha]⟩, trivial⟩, trivial⟩ ?_
 conv=>whnf
 refine appI [at_] rfl lI ?_
 conv=>whnf
 refine WPc.loopF tt_ok mx_ok (fun i : Nat=>i ≤ k) (fun i=>[(6, .top), (8, .top), (9, .top), (15, .int .i64 (i : Int))]) (fun i=>scN p q (outs ++ [at_] ++ extT k m at_ i)) (fun i=>k - i) 0 (Nat.zero_le _) ?_; conv=>whnf
 refine ⟨by rw [hx0]; exact Sub.by_ [(200, .old 200), (201, .old 201), (204, .old 9), (202, .old 202)] _ 400 rfl (auto_) (auto_), ?_⟩
 rintro i hi
 conv=>whnf
 refine cmpI ?_ ?_ <;> (intro h1; conv=>whnf)
 ·have hik : i < k:=by omega
  have eu:=hx2 i
  refine dC (containsN (.inl ⟨ha, rfl⟩) (i : Int) (by omega)) (fun _=>?_) (fun _=>?_) <;> (conv=>whnf)
  ·rename_i hm2
   rw [if_pos hm2, List.append_nil] at eu
   repeat' ((first|refine nI ?_|refine aI ?_|refine tI ?_|refine fI ?_|fail);conv=>whnf)
   refine ⟨i + 1, ?_, by omega, by dsimp only; omega⟩
   dsimp only
   rw [eu]
   exact Sub.by_ [(200, .old 200), (201, .old 201), (204, .old 204), (202, .old 202)] _ 400 rfl (auto_) (auto_)
  ·rename_i hm2
   rw [if_neg hm2] at eu
   have hm0 : 0 < m:=Nat.pos_of_ne_zero fun h0=>hm2 (sch_full hs (by omega) hik)
   have hx : (outs ++ [at_] ++ extT k m at_ i).length + (k + 1) ^ (m - 1) ≤ 1000000:=by
    have a:=hx1 i
    obtain ⟨n, rfl⟩ : ∃ n, m = n + 1:=⟨m - 1, by omega⟩
    rw [Nat.add_sub_cancel] at a ⊢
    rw [Nat.pow_succ] at hb
    have b : (i + 1) * (k + 1) ^ n ≤ k * (k + 1) ^ n:=Nat.mul_le_mul_right _ (by omega)
    have c : 1 ≤ (k + 1) ^ n:=Nat.pow_pos (by omega)
    simp only [List.length_append, List.length_cons, List.length_nil]
    rw [Nat.add_mul, Nat.one_mul] at b
    rw [Nat.mul_add, Nat.mul_one, Nat.mul_comm _ k] at hb
    omega
   have hc:=ih (at_ ++ [(i : Int)]) (outs ++ [at_] ++ extT k m at_ i) (by simp) (by omega) (by rw [hKd]; exact sch_snoc hs hik hm2) (by rw [hKd]; simp only [List.length_append, List.length_cons, List.length_nil]; omega) (by rw [hKd]; exact hx)
   rw [hKd] at hc
   have hq : at_ ++ [(i : Int)] = [(i : Int)]:=by rw [ha]; rfl
   rw [hq] at hc eu
   refine drawE ?_
   conv=>whnf
   repeat' first
    |exact True.intro
    |(refine And.intro ?_ ?_ <;> conv=>whnf)
    |(refine Spec.of_pure (n:=5) cloneZ (by rfl) ?_; rintro u rfl; conv=>whnf)
    |(refine bldI 0 encI [(i : Int)] rfl ?_; conv=>whnf)
    |(refine appI [(i : Int)] rfl lI ?_; conv=>whnf)
    |(refine leakN ?_; conv=>whnf)
    |(refine needI (show 1 * 8 ≤ 140737488355328 by omega) ?_; conv=>whnf)
    |fail
   all_goals first
    |(refine Spec.hand 27 rfl ?_
      refine Spec.call [(200, .old 200), (201, .old 204), (202, .old 202)] (scL p q (outs ++ [at_] ++ extT k m at_ i)) 400 rfl (auto_) (auto_) hc ?_
      rintro u M' ⟨rfl, rfl⟩
      refine ⟨[(200, .old 200), (204, .old 201), (205, .old 204), (202, .old 202)], [(200, .box 86 [.row 205 (outs ++ [at_] ++ extT k m at_ i ++ xtL k (m - 1) [(i : Int)]).length 1]), (204, .dead), (205, rowL (outs ++ [at_] ++ extT k m at_ i ++ xtL k (m - 1) [(i : Int)])), (202, .box 169 [.fn 161 [.ptr 200 0, .pd [.pd (famC p q)], .ptr 202 0]])], .tup [], rfl, (auto_), trivial, ?_⟩
      conv=>whnf
      repeat' ((first|refine nI ?_|refine aI ?_|refine tI ?_|refine fI ?_|fail);conv=>whnf)
      refine ⟨i + 1, ?_, by omega, by dsimp only; omega⟩
      dsimp only
      rw [eu, ← List.append_assoc]
      exact Sub.by_ [(200, .old 200), (201, .old 201), (204, .old 205), (202, .old 202)] _ 400 rfl (auto_) (auto_))
    |trace_state
 ·obtain rfl : i = k:=by omega
  have e : outs ++ xtL i m at_ = outs ++ [at_] ++ extT i m at_ i:=by rw [eL, List.append_assoc]; rfl
  rw [e]
  exact ⟨rfl, rfl⟩
theorem schemasF (p : Pro) (q : Prp) (hk : (thrL p.rules).length ≤ 3) : PSpec Tryz.prog 85 [.pd (famC p q)] (fun u=>u = .sl [] encL (schL p)):=by
 refine PSpec.intro tt_ok mx_ok Tryz.func85 rfl (by decide) ?_; (conv=>whnf)
 refine boxP rfl ?_
 conv=>whnf
 refine Spec.call [(200, .old 3), (201, .nil 1), (202, .old 4)] (scL p q []) 400 rfl (auto_) (auto_) (exRt p q hk) ?_
 rintro u M' ⟨rfl, rfl⟩
 refine ⟨[(3, .old 200), (204, .old 204), (4, .old 202)], [(3, .box 86 [.row 204 (schL p).length 1]), (204, rowL (schL p)), (4, .box 169 [.fn 161 [.ptr 3 0, .pd [.pd (famC p q)], .ptr 4 0]])], .tup [], rfl, (auto_), trivial, ?_⟩
 conv=>whnf
 exact ⟨rfl, rfl⟩
theorem SchemasF (p : Pro) (q : Prp) (hp : okP p) (hq : okQ q) : PSpec Tryz.prog 31 [.agg (encP p), .agg (encQ q)] (fun u=>u = schA p q):=by
 refine PSpec.intro tt_ok mx_ok Tryz.func31 rfl (by decide) ?_; (conv=>whnf)
 refine boxP rfl ?_
 conv=>whnf
 refine boxP rfl ?_
 conv=>whnf
 refine Spec.of_pure (n:=5) (loadF p q hp hq) (by rfl) ?_
 rintro u rfl
 by_cases h0 : chkE p q = 0
 ·rw [loadA_z h0]
  have hv:=(vlq_of (chk_prop h0)).vld
  have hT:=(vld_of hv).thr
  conv=>whnf
  refine fI ?_
  conv=>whnf
  (refine oP (schemasF p q (by omega)) ?_; conv=>whnf)
  exact ⟨(schA_z h0).symm, rfl⟩
 ·rw [loadA_e rfl h0]
  conv=>whnf
  refine cmpI ?_ ?_ <;> (intro h; conv=>whnf)
  ·exact ⟨(schA_e h0).symm, rfl⟩
  ·exact absurd h0 (fun e=>h e)
end Go.Proofs.YtnjggjhkfncnlaaGreatDoor
