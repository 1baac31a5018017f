import Derived.Test.YtnjggjhkfncnlaaGreatDoorPjE
import Derived.Test.YtnjggjhkfncnlaaGreatDoorGB
import Derived.Test.YtnjggjhkfncnlaaGreatDoorFZ2
import Derived.Test.YtnjggjhkfncnlaaGreatDoorW0
set_option linter.unusedVariables false
set_option linter.unusedSimpArgs false
namespace Go.Proofs.YtnjggjhkfncnlaaGreatDoor
set_option maxRecDepth 100000
set_option maxHeartbeats 16000000
noncomputable def dpC (s : Siz) (c : Cfg) (xs : List Stp) (seg : List Int) (vars : List Vb) (nS nT v i k : Nat) : Co:=fun w =>
 if w ∈ vars.take v then pjC s c xs seg nS nT w else if w = vars.getD v vb0 then pjC s c xs seg i k w else bsC s w
section
variable {s : Siz} {c : Cfg} {xs : List Stp} {seg : List Int} {vars : List Vb} {nS nT v i k : Nat}
theorem dp_fresh (hn : vars.Nodup) (hv : v < vars.length) : vars.getD v vb0 ∉ vars.take v:=by
 intro h
 obtain ⟨j, hj, e⟩:=List.mem_take_iff_getElem.1 h
 rw [getD_elem vb0 hv] at e
 have:=(List.getElem_inj hn).1 e
 omega
theorem dp_s_yes (hn : vars.Nodup) (hv : v < vars.length) (h : vars.getD v vb0 = stV' c i) : addC (dpC s c xs seg vars nS nT v i k) (vars.getD v vb0) 1 = dpC s c xs seg vars nS nT v (i + 1) k:=by
 funext w
 unfold addC dpC
 by_cases e : w = vars.getD v vb0
 ·rw [if_pos e, if_neg (by rw [e]; exact dp_fresh hn hv), if_pos e, if_neg (by rw [e]; exact dp_fresh hn hv), if_pos e]
  unfold pjC
  rw [cS, if_pos (e.trans h)]
  omega
 ·rw [if_neg e, if_neg e, if_neg e]
theorem dp_s_no (h : vars.getD v vb0 ≠ stV' c i) : dpC s c xs seg vars nS nT v i k = dpC s c xs seg vars nS nT v (i + 1) k:=by
 funext w
 unfold dpC
 by_cases e : w = vars.getD v vb0
 ·rw [if_pos e, if_pos e]
  unfold pjC
  rw [cS, if_neg (fun e2=>h (e.symm.trans e2)), Int.add_zero]
 ·rw [if_neg e, if_neg e]
theorem dp_t_yes (hn : vars.Nodup) (hv : v < vars.length) (h : vars.getD v vb0 = tpV c xs seg k) : addC (dpC s c xs seg vars nS nT v i k) (vars.getD v vb0) 1 = dpC s c xs seg vars nS nT v i (k + 1):=by
 funext w
 unfold addC dpC
 by_cases e : w = vars.getD v vb0
 ·rw [if_pos e, if_neg (by rw [e]; exact dp_fresh hn hv), if_pos e, if_neg (by rw [e]; exact dp_fresh hn hv), if_pos e]
  unfold pjC
  rw [cT, if_pos (e.trans h)]
  omega
 ·rw [if_neg e, if_neg e, if_neg e]
theorem dp_t_no (h : vars.getD v vb0 ≠ tpV c xs seg k) : dpC s c xs seg vars nS nT v i k = dpC s c xs seg vars nS nT v i (k + 1):=by
 funext w
 unfold dpC
 by_cases e : w = vars.getD v vb0
 ·rw [if_pos e, if_pos e]
  unfold pjC
  rw [cT, if_neg (fun e2=>h (e.symm.trans e2)), Int.add_zero]
 ·rw [if_neg e, if_neg e]
theorem pjC_00 (w : Vb) : pjC s c xs seg 0 0 w = bsC s w:=by
 unfold pjC
 rw [cS, cT]
 omega
theorem dp_next (hv : v < vars.length) : vars.map (dpC s c xs seg vars nS nT v nS nT) = vars.map (dpC s c xs seg vars nS nT (v + 1) 0 0):=by
 refine List.map_congr_left fun w _=>?_
 have hm : w ∈ vars.take (v + 1) ↔ w ∈ vars.take v ∨ w = vars.getD v vb0:=by rw [take_succ_getD vb0 hv, List.mem_append, List.mem_singleton]
 unfold dpC
 by_cases h1 : w ∈ vars.take v
 ·rw [if_pos h1, if_pos (hm.2 (.inl h1))]
 ·rw [if_neg h1]
  by_cases h2 : w = vars.getD v vb0
  ·rw [if_pos h2, if_pos (hm.2 (.inr h2))]
  ·rw [if_neg h2, if_neg (fun h=>(hm.1 h).elim h1 h2)]
   split
   ·exact (pjC_00 w).symm
   ·rfl
theorem dp_zero : vars.map (dpC s c xs seg vars nS nT 0 0 0) = vars.map (bsC s):=by
 refine List.map_congr_left fun w _=>?_
 unfold dpC
 rw [if_neg (by simp)]
 split
 ·exact pjC_00 w
 ·rfl
theorem dp_all : vars.map (dpC s c xs seg vars nS nT vars.length 0 0) = vars.map (pjC s c xs seg nS nT):=by
 refine List.map_congr_left fun w hw=>?_
 unfold dpC
 rw [List.take_length, if_pos hw]
theorem dp_b (w : Vb) (hs : 0 ≤ s.n ∧ s.n ≤ 8 ∧ 0 ≤ s.t ∧ s.t ≤ 8 ∧ 0 ≤ s.f ∧ s.f ≤ 8) (h1 : nS ≤ 8 ∧ i ≤ 8) (h2 : nT ≤ 48 ∧ k ≤ 48) : 0 ≤ dpC s c xs seg vars nS nT v i k w ∧ dpC s c xs seg vars nS nT v i k w ≤ 100:=by
 have hb : 0 ≤ bsC s w ∧ bsC s w ≤ 8:=by
  unfold bsC
  split
  ·omega
  ·split
   ·omega
   ·split <;> omega
 have a1:=cS_b c w nS
 have a2:=cS_b c w i
 have b1:=cT_b c xs seg w nT
 have b2:=cT_b c xs seg w k
 unfold dpC
 split
 ·unfold pjC; omega
 ·split
  ·unfold pjC; omega
  ·omega
end
theorem vk_seg {p : Pro} {sch : List Int} {v : Vb} (h : vkB p sch v) (hk : v.kind = 3 ∨ v.kind = 4) : v.seg = 0:=by
 rcases h with (h | h | h) | ⟨_, h, _⟩ | ⟨h, _⟩
 ·rw [h]
 ·rw [h]
 ·rw [h]
 ·exact h
 ·omega
theorem forceJ {u : AV} {k : AV → Prop} (h : k u) : forceK u k:=by rw [forceK_eq]; exact h
theorem putJ {fr : List AV} {d : Option Tmp} {u : AV} {k : List AV → Prop} (h : k (setD fr d u)) : putD fr d u k:=by rw [putD_eq]; exact h
theorem needJ {c : Prop} {u u' : AV} {K : AV → Prop} (h : c) (e : u = u') (hk : forceK u' K) : needK c (forceK u K):=by subst e; exact needI h hk
theorem ops_storeJ {P : Program} {tt : TT} {all r : List Oper} {fr : List AV} {M : Mem} {K : List AV → Mem → Prop} {t ty : TypeId} {ps : String} {af : Array Edge} {a b : Operand} {ℓ j : Nat} {v : Int} {rt : TypeId} {l : List Int} {i : TI}
  (ha : avOf fr a = .rel ℓ j 0) (hb : avOf fr b = .int .i64 v) (ht : tt.find t = some i) (hM : M ℓ = some (.row rt (0 : Int) encI l)) (hi : i.size = 1) (hk : opsK P tt none all r fr (M.set ℓ (.row rt 0 encI (l.set j v))) K) :
  opsK P tt none all ({ dst:=none, op:=.store t a b, type:=ty, pos:=ps, after:=af, guard:=none } :: r) fr M K:=by
 simp only [opsK]
 rw [stepK_eq]
 simp only [gv, opnds, List.map_cons, List.map_nil, ha, hb, semK, storeH, storeK, cellsA, ht, hi, leakK, hM, setD]
 exact rowSetI v rfl hk
theorem ProjectR (p : Pro) (q : Prp) (s : Siz) (r : Rn) (hp : okP p) (hq : okQ q) (hc : okC r.start) (hl : r.steps.length ≤ 140737488355328) :
  PSpec Tryz.prog 7 [.agg (encP p), .agg (encQ q), .agg (encZ s), .agg (encRn r)] (fun u=>u = pjV (pjA p q s r)):=by
 refine PSpec.pj ?_
 have he:=pjA.eq_1 p q s r
 generalize pjA p q s r = A at he
 have hL:=checkedR p q s hp hq
 refine PSpec.intro tt_ok mx_ok Tryz.func7 rfl (by decide) ?_; (conv=>whnf)
 refine boxP rfl ?_
 conv=>whnf
 refine boxP rfl ?_
 conv=>whnf
 refine boxP rfl ?_
 conv=>whnf
 refine boxP rfl ?_
 conv=>whnf
 by_cases h : lszE p q s = 0
 rotate_left
 ·rw [if_pos h] at he
  subst he
  (refine oP (hL) ?_; conv=>whnf)
  refine cmpT h ?_
  conv=>whnf
  exact ⟨.inr ⟨rfl, rfl, rfl⟩, rfl⟩
 rw [if_neg (fun y=>y h)] at he
 rw [h] at hL
 obtain ⟨h1, ht, hz, hz2⟩:=lsz_ok h
 have hv:=(vlq_of h1).vld
 have hR:=ReplayR p s r hp hv ht hc hl
 (refine oP (hL) ?_; conv=>whnf)
 refine fI ?_
 conv=>whnf
 by_cases hvc : VC p s r.start
 rotate_left
 ·rw [if_pos (fun y=>hvc y.1)] at he
  have eT : rpT p s r = rpA [] 10:=by unfold rpT; rw [if_neg (fun y=>y hz), if_neg hvc]
  rw [eT] at hR
  unfold rpA at hR
  subst he
  (refine oP (hR) ?_; conv=>whnf)
  refine cmpT (by decide) ?_
  conv=>whnf
  exact ⟨.inr ⟨rfl, rfl, rfl⟩, rfl⟩
 have eT : rpT p s r = rp p s [r.start] r.start r.steps:=by unfold rpT; rw [if_neg (fun y=>y hz), if_pos hvc]
 by_cases hro : runOk p s r.start r.steps
 rotate_left
 ·rw [if_pos (fun y=>hro y.2.1)] at he
  obtain ⟨e, e0, e1⟩:=rp_no (acc:=[r.start]) hro
  rw [eT, e1] at hR
  unfold rpA at hR
  subst he
  (refine oP (hR) ?_; conv=>whnf)
  refine cmpT e0 ?_
  conv=>whnf
  exact ⟨.inr ⟨rfl, rfl, rfl⟩, rfl⟩
 have rd:=rdy_vc (vcon_vc hz hvc)
 have hI:=IsInitialT p q s r.start rd.big (not_bigq h1) rd.wide hz2
 rw [eT, rp_ok hro] at hR
 have eR : [r.start] ++ tr p r.start r.steps = trs p r.start r.steps:=rfl
 rw [eR] at hR
 unfold rpA at hR
 by_cases hin : isI p q s r.start
 rotate_left
 ·rw [if_pos (fun y=>hin y.2.2)] at he
  rw [decide_eq_false hin] at hI
  subst he
  (refine oP (hR) ?_; conv=>whnf)
  refine fI ?_
  conv=>whnf
  (refine oP (hI) ?_; conv=>whnf)
  exact ⟨.inr ⟨rfl, rfl, rfl⟩, rfl⟩
 have hk:=pj_ok h ⟨hvc, hro, hin⟩
 rw [if_neg (fun y=>y ⟨hvc, hro, hin⟩)] at he
 rw [decide_eq_true hin] at hI
 (refine oP (hR) ?_; conv=>whnf)
 refine fI ?_
 conv=>whnf
 (refine oP (hI) ?_; conv=>whnf)
 have hlt:=trs_len p r.start r.steps
 have hrdy:=trs_rdy rd hro
 have hlen:=hk.len
 have hthr:=(vld_of hv).thr
 have hsch:=hk.sch
 have hnd:=varL_nodup h1 (pjG p s r).1
 have hvl:=varL_len h1 hsch
 have hkv : ∀ v ∈ varL p q (pjG p s r).1, vkB p (pjG p s r).1 v:=fun v hv=>var_kind h1 hv
 have hseg:=hk.seg
 have hsl:=sch_len hsch
 have hsta:=hk.sta
 have hvar:=variablesR p q hp hq h1 (pjG p s r).1 hsch
 have hgl : ∀ (l : List Cfg) (a b : List Int), a.Nodup → (∀ x ∈ a, 0 ≤ x ∧ x < ((thrL p.rules).length : Int)) → a.length ≤ 3:=fun l a b h1 h2=>by
  have:=nodup_len h1 h2
  omega
 refine WPc.loopF tt_ok mx_ok (fun z : Nat × List Int × List Int=>z.1 ≤ r.steps.length + 1 ∧ z.2.2.length = z.1 ∧ (z.2.1.Nodup ∧ ∀ x ∈ z.2.1, 0 ≤ x ∧ x < ((thrL p.rules).length : Int)) ∧ pjG p s r = schF p s ((trs p r.start r.steps).drop z.1) z.2.1 z.2.2) (fun z=>[(16, .int .i64 (z.1 : Int)), (14, .row 1000 z.2.1.length 1), (15, .row 1001 z.2.2.length 1)]) (fun z=>[(1000, .row 3 0 encI z.2.1), (1001, .row 3 0 encI z.2.2)]) (fun z=>r.steps.length + 1 - z.1) (0, [], []) ⟨Nat.zero_le _, rfl, ⟨by simp, fun x hx=>by cases hx⟩, rfl⟩ ?_; conv=>whnf
 refine ⟨Sub.by_ [(1000, .nil 1), (1001, .nil 1)] _ 400 rfl (auto_) (auto_), ?_⟩
 rintro ⟨k, sc, sg⟩ ⟨k1, k2, ⟨k3, k4⟩, k5⟩
 dsimp only at k1 k2 k3 k4 k5
 have hs3:=hgl [] sc sg k3 k4
 conv=>whnf
 refine cmpI ?_ ?_ <;> (intro g1; conv=>whnf)
 ·have hkl : k < (trs p r.start r.steps).length:=by omega
  have hrk:=hrdy k (by omega)
  rw [List.drop_eq_getElem_cons hkl, ← getD_elem cfg0 hkl] at k5
  have hU:=unlockedH p s ((trs p r.start r.steps).getD k cfg0) hp hrk
  have hUl:=unlL_len p s ((trs p r.start r.steps).getD k cfg0) (thrL p.rules).length
  have hUm : ∀ x ∈ unlL p s ((trs p r.start r.steps).getD k cfg0) (thrL p.rules).length, 0 ≤ x ∧ x < ((thrL p.rules).length : Int):=fun x hx=>by
   obtain ⟨i, hi, rfl, _⟩:=(unlL_mem p s _).1 hx
   omega
  have k6 : pjG p s r = schF p s ((trs p r.start r.steps).drop (k + 1)) (addL sc (unlL p s ((trs p r.start r.steps).getD k cfg0) (thrL p.rules).length)) (sg ++ [((addL sc (unlL p s ((trs p r.start r.steps).getD k cfg0) (thrL p.rules).length)).length : Int)]):=k5
  clear k5
  generalize unlL p s ((trs p r.start r.steps).getD k cfg0) (thrL p.rules).length = now at *
  refine dI ?_
  conv=>whnf
  refine nI ?_
  rw [tN]
  conv=>whnf
  (refine oC (hU) ?_; conv=>whnf)
  refine WPc.loopF tt_ok mx_ok (fun y : Nat × List Int=>y.1 ≤ now.length ∧ (y.2.Nodup ∧ ∀ x ∈ y.2, 0 ≤ x ∧ x < ((thrL p.rules).length : Int)) ∧ addL sc now = addL y.2 (now.drop y.1)) (fun y=>[(18, .int .i64 (y.1 : Int)), (14, .row 1000 y.2.length 1)]) (fun y=>[(1000, .row 3 0 encI y.2), (1001, .row 3 0 encI sg)]) (fun y=>now.length - y.1) (0, sc) ⟨Nat.zero_le _, ⟨k3, k4⟩, rfl⟩ ?_; conv=>whnf
  refine ⟨Sub.by_ [(1000, .old 1000), (1001, .old 1001)] _ 400 rfl (auto_) (auto_), ?_⟩
  rintro ⟨m, sd⟩ ⟨m1, ⟨m2, m3⟩, m4⟩
  dsimp only at m1 m2 m3 m4
  have hd3:=hgl [] sd sg m2 m3
  conv=>whnf
  refine cmpI ?_ ?_ <;> (intro g2; conv=>whnf)
  ·have hml : m < now.length:=by omega
   refine nI ?_
   rw [tN]
   conv=>whnf
   have hgm:=hUm _ (mem_getD (0 : Int) hml)
   rw [List.drop_eq_getElem_cons hml, ← getD_elem 0 hml] at m4
   have hC:=inR4 sd (now.getD m 0) (by omega)
   by_cases hg : now.getD m 0 ∈ sd
   ·rw [decide_eq_true hg] at hC
    rw [addL, if_pos hg] at m4
    (refine Spec.borrow (n:=5) (hC) rfl (by rintro _ rfl; rfl) ?_; rintro _ rfl; conv=>whnf)
    repeat' ((first|refine nI ?_|refine aI ?_|refine arU trivial (by omega) ?_|refine arB trivial (by omega) ?_|refine dI ?_|refine dR ?_|refine dP ?_|refine boxP rfl ?_|refine pI _ rfl ?_|refine rowSetI _ rfl ?_|refine tI ?_|refine fI ?_|refine cmpI (fun _=>?_) (fun _=>?_)) <;> conv=>whnf)
    exact ⟨(m + 1, sd), Sub.by_ [(1000, .old 1000), (1001, .old 1001)] _ 400 rfl (auto_) (auto_), ⟨by dsimp only; omega, ⟨m2, m3⟩, m4⟩, by dsimp only; omega⟩
   ·rw [decide_eq_false hg] at hC
    rw [addL, if_neg hg] at m4
    (refine Spec.borrow (n:=5) (hC) rfl (by rintro _ rfl; rfl) ?_; rintro _ rfl; conv=>whnf)
    refine nI ?_
    rw [tN]
    conv=>whnf
    generalize now.getD m 0 = g at *
    refine appI [g] rfl lI ?_
    conv=>whnf
    repeat' ((first|refine nI ?_|refine aI ?_|refine arU trivial (by omega) ?_|refine arB trivial (by omega) ?_|refine dI ?_|refine dR ?_|refine dP ?_|refine boxP rfl ?_|refine pI _ rfl ?_|refine rowSetI _ rfl ?_|refine tI ?_|refine fI ?_|refine cmpI (fun _=>?_) (fun _=>?_)) <;> conv=>whnf)
    refine ⟨(m + 1, sd ++ [g]), Sub.by_ [(1000, .old 82), (1001, .old 1001)] _ 400 rfl (auto_) (auto_), ⟨by dsimp only; omega, ⟨?_, fun x hx=>?_⟩, m4⟩, by dsimp only; omega⟩
    ·dsimp only
     rw [List.nodup_append]
     refine ⟨m2, by simp, fun a ha b hb e=>?_⟩
     rw [List.mem_singleton] at hb
     subst hb; subst e
     exact hg ha
    ·rcases List.mem_append.1 hx with hx | hx
     ·exact m3 x hx
     ·rw [List.mem_singleton] at hx
      subst hx
      exact hgm
  ·obtain rfl : m = now.length:=by omega
   rw [List.drop_length, addL] at m4
   rw [m4] at k6
   refine appI [(sd.length : Int)] rfl lI ?_
   conv=>whnf
   refine aI ?_
   conv=>whnf
   exact ⟨(k + 1, sd, sg ++ [(sd.length : Int)]), Sub.by_ [(1000, .old 1000), (1001, .old 87)] _ 400 rfl (auto_) (auto_), ⟨by dsimp only; omega, by dsimp only; rw [List.length_append, List.length_singleton]; omega, ⟨m2, m3⟩, k6⟩, by dsimp only; omega⟩
 ·obtain rfl : k = r.steps.length + 1:=by omega
  rw [List.drop_of_length_le (by omega), schF] at k5
  have hbr:=base_row p q sc s
  rw [k5] at he hsch hnd hvl hkv hseg hsl hvar
  dsimp only at he hsch hnd hvl hkv hseg hsl hvar
  have hv3 : 3 ≤ (varL p q sc).length:=by unfold varL; simp only [List.length_append, List.length_cons, List.length_nil]; omega
  have hsz:=rd.sz
  have hst2:=rd.adm.1
  unfold admA at hst2
  generalize varL p q sc = vars at *
  refine Spec.hand 1000 rfl ?_
  refine Spec.of_pure (n:=5) hvar rfl ?_
  rintro _ rfl
  conv=>whnf
  refine mkI 0 encI 0 rfl (by dsimp only; omega) ?_
  rw [tN]
  conv=>whnf
  refine needJ (u':=.rel 94 0 0) (by omega) rfl ?_
  refine forceJ ?_
  refine putJ ?_
  refine ops_storeJ (v:=s.n) (l:=List.replicate vars.length 0) rfl rfl rfl rfl rfl ?_
  conv=>whnf
  refine needJ (u':=.rel 94 1 0) (by omega) rfl ?_
  refine forceJ ?_
  refine putJ ?_
  refine ops_storeJ (v:=s.t) (l:=(List.replicate vars.length 0).set 0 s.n) rfl rfl rfl rfl rfl ?_
  conv=>whnf
  refine needJ (u':=.rel 94 2 0) (by omega) rfl ?_
  refine forceJ ?_
  refine putJ ?_
  refine ops_storeJ (v:=s.f) (l:=((List.replicate vars.length 0).set 0 s.n).set 1 s.t) rfl rfl rfl rfl rfl ?_
  conv=>whnf
  have hdb:=fun (v i k : Nat) (hi : i ≤ 8) (hk : k ≤ 48) (w : Vb)=>dp_b (s:=s) (c:=r.start) (xs:=r.steps) (seg:=sg) (vars:=vars) (nS:=r.start.states.length) (nT:=r.steps.length) (v:=v) (i:=i) (k:=k) w (by omega) ⟨by omega, hi⟩ ⟨by omega, hk⟩
  have hadd:=fun (co : Co) (m : Nat) (hm : m < vars.length)=>row_add co (vars:=vars) (m:=m) 1 hnd hm
  have hget:=fun (co : Co) (m : Nat) (hm : m < vars.length)=>row_get co (vars:=vars) (m:=m) hm
  refine WPc.loopF tt_ok mx_ok (fun v : Nat=>v ≤ vars.length) (fun v=>[(21, .int .i64 (v : Int))]) (fun v=>[(1000, .gone (0 : Int) encI sc), (1001, .row 3 0 encI sg), (94, .row 3 0 encI (vars.map (dpC s r.start r.steps sg vars r.start.states.length r.steps.length v 0 0)))]) (fun v=>vars.length - v) 0 (Nat.zero_le _) ?_; conv=>whnf
  refine ⟨by rw [dp_zero, ← hbr]; exact Sub.by_ [(1000, .old 1000), (1001, .old 1001), (94, .old 94)] _ 400 rfl (auto_) (auto_), ?_⟩
  rintro v hvv
  conv=>whnf
  refine cmpI ?_ ?_ <;> (intro g2; conv=>whnf)
  rotate_left
  ·obtain rfl : v = vars.length:=by omega
   rw [dp_all]
   subst he
   exact ⟨.inl rfl, rfl⟩
  have hv2 : v < vars.length:=by omega
  have hkw:=hkv _ (mem_getD vb0 hv2)
  have hvs:=vk_seg hkw
  refine WPc.loopF tt_ok mx_ok (fun i : Nat=>i ≤ r.start.states.length) (fun i=>[(22, .int .i64 (i : Int))]) (fun i=>[(1000, .gone (0 : Int) encI sc), (1001, .row 3 0 encI sg), (94, .row 3 0 encI (vars.map (dpC s r.start r.steps sg vars r.start.states.length r.steps.length v i 0)))]) (fun i=>r.start.states.length - i) 0 (Nat.zero_le _) ?_; conv=>whnf
  refine ⟨Sub.by_ [(1000, .old 1000), (1001, .old 1001), (94, .old 94)] _ 400 rfl (auto_) (auto_), ?_⟩
  rintro i hi
  conv=>whnf
  refine cmpI ?_ ?_ <;> (intro g3; conv=>whnf)
  rotate_left
  ·obtain rfl : i = r.start.states.length:=by omega
   refine WPc.loopF tt_ok mx_ok (fun k : Nat=>k ≤ r.steps.length) (fun k=>[(23, .int .i64 (k : Int))]) (fun k=>[(1000, .gone (0 : Int) encI sc), (1001, .row 3 0 encI sg), (94, .row 3 0 encI (vars.map (dpC s r.start r.steps sg vars r.start.states.length r.steps.length v r.start.states.length k)))]) (fun k=>r.steps.length - k) 0 (Nat.zero_le _) ?_; conv=>whnf
   refine ⟨Sub.by_ [(1000, .old 1000), (1001, .old 1001), (94, .old 94)] _ 400 rfl (auto_) (auto_), ?_⟩
   rintro k hk
   conv=>whnf
   refine cmpI ?_ ?_ <;> (intro g4; conv=>whnf)
   rotate_left
   ·obtain rfl : k = r.steps.length:=by omega
    refine aI ?_
    conv=>whnf
    refine ⟨v + 1, ?_, by omega, by dsimp only; omega⟩
    dsimp only
    rw [← dp_next hv2]
    exact Sub.by_ [(1000, .old 1000), (1001, .old 1001), (94, .old 94)] _ 400 rfl (auto_) (auto_)
   refine nI ?_
   rw [tN]
   conv=>whnf
   refine dI ?_
   conv=>whnf
   refine nI ?_
   rw [tN]
   conv=>whnf
   refine cmpI ?_ ?_ <;> (intro e1; conv=>whnf)
   rotate_left
   ·as_aux_lemma =>
     have hno : vars.getD v vb0 ≠ tpV r.start r.steps sg k:=by
      intro e
      have a:=congrArg Vb.kind e
      have b:=congrArg Vb.idx e
      have d:=congrArg Vb.seg e
      unfold tpV at a b d
      dsimp only at a b d
      split at a <;> omega
     refine aI ?_
     conv=>whnf
     refine ⟨k + 1, ?_, by omega, by dsimp only; omega⟩
     dsimp only
     rw [← dp_t_no hno]
     exact Sub.by_ [(1000, .old 1000), (1001, .old 1001), (94, .old 94)] _ 400 rfl (auto_) (auto_)
   refine nI ?_
   rw [tN]
   conv=>whnf
   refine nI ?_
   rw [tN]
   conv=>whnf
   refine cmpI ?_ ?_ <;> (intro e6; conv=>whnf)
   rotate_left
   ·as_aux_lemma =>
     have hno : vars.getD v vb0 ≠ tpV r.start r.steps sg k:=by
      intro e
      have a:=congrArg Vb.kind e
      have b:=congrArg Vb.idx e
      have d:=congrArg Vb.seg e
      unfold tpV at a b d
      dsimp only at a b d
      split at a <;> omega
     refine aI ?_
     conv=>whnf
     refine ⟨k + 1, ?_, by omega, by dsimp only; omega⟩
     dsimp only
     rw [← dp_t_no hno]
     exact Sub.by_ [(1000, .old 1000), (1001, .old 1001), (94, .old 94)] _ 400 rfl (auto_) (auto_)
   refine nI ?_
   rw [tN]
   conv=>whnf
   refine cmpI ?_ ?_ <;> (intro e2; conv=>whnf)
   ·refine cmpI ?_ ?_ <;> (intro e3; conv=>whnf)
    ·as_aux_lemma =>
      have hy : vars.getD v vb0 = tpV r.start r.steps sg k:=by
       refine vb_ext ?_ e6 e1
       unfold tpV
       dsimp only
       split <;> omega
      have hb:=hdb v r.start.states.length k (by omega) (by omega) (vars.getD v vb0)
      refine nI ?_
      rw [tN]
      conv=>whnf
      rw [hget _ v hv2]
      refine aI ?_
      conv=>whnf
      refine nI ?_
      rw [tN]
      conv=>whnf
      refine rowSetI (dpC s r.start r.steps sg vars r.start.states.length r.steps.length v r.start.states.length k (vars.getD v vb0) + 1) rfl ?_
      conv=>whnf
      refine aI ?_
      conv=>whnf
      refine ⟨k + 1, ?_, by omega, by dsimp only; omega⟩
      dsimp only
      rw [← dp_t_yes hnd hv2 hy, ← hadd _ v hv2]
      exact Sub.by_ [(1000, .old 1000), (1001, .old 1001), (94, .old 94)] _ 400 rfl (auto_) (auto_)
    ·refine nI ?_
     rw [tN]
     conv=>whnf
     refine fI ?_
     conv=>whnf
     as_aux_lemma =>
      have hno : vars.getD v vb0 ≠ tpV r.start r.steps sg k:=by
       intro e
       have a:=congrArg Vb.kind e
       have b:=congrArg Vb.idx e
       have d:=congrArg Vb.seg e
       unfold tpV at a b d
       dsimp only at a b d
       split at a <;> omega
      refine aI ?_
      conv=>whnf
      refine ⟨k + 1, ?_, by omega, by dsimp only; omega⟩
      dsimp only
      rw [← dp_t_no hno]
      exact Sub.by_ [(1000, .old 1000), (1001, .old 1001), (94, .old 94)] _ 400 rfl (auto_) (auto_)
   ·refine nI ?_
    rw [tN]
    conv=>whnf
    refine cmpI ?_ ?_ <;> (intro e4; conv=>whnf)
    ·refine cmpI ?_ ?_ <;> (intro e5; conv=>whnf)
     ·as_aux_lemma =>
       have hy : vars.getD v vb0 = tpV r.start r.steps sg k:=by
        refine vb_ext ?_ e6 e1
        unfold tpV
        dsimp only
        split <;> omega
       have hb:=hdb v r.start.states.length k (by omega) (by omega) (vars.getD v vb0)
       refine nI ?_
       rw [tN]
       conv=>whnf
       rw [hget _ v hv2]
       refine aI ?_
       conv=>whnf
       refine nI ?_
       rw [tN]
       conv=>whnf
       refine rowSetI (dpC s r.start r.steps sg vars r.start.states.length r.steps.length v r.start.states.length k (vars.getD v vb0) + 1) rfl ?_
       conv=>whnf
       refine aI ?_
       conv=>whnf
       refine ⟨k + 1, ?_, by omega, by dsimp only; omega⟩
       dsimp only
       rw [← dp_t_yes hnd hv2 hy, ← hadd _ v hv2]
       exact Sub.by_ [(1000, .old 1000), (1001, .old 1001), (94, .old 94)] _ 400 rfl (auto_) (auto_)
     ·as_aux_lemma =>
       have hno : vars.getD v vb0 ≠ tpV r.start r.steps sg k:=by
        intro e
        have a:=congrArg Vb.kind e
        have b:=congrArg Vb.idx e
        have d:=congrArg Vb.seg e
        unfold tpV at a b d
        dsimp only at a b d
        split at a <;> omega
       refine aI ?_
       conv=>whnf
       refine ⟨k + 1, ?_, by omega, by dsimp only; omega⟩
       dsimp only
       rw [← dp_t_no hno]
       exact Sub.by_ [(1000, .old 1000), (1001, .old 1001), (94, .old 94)] _ 400 rfl (auto_) (auto_)
    ·as_aux_lemma =>
      have hno : vars.getD v vb0 ≠ tpV r.start r.steps sg k:=by
       intro e
       have a:=congrArg Vb.kind e
       have b:=congrArg Vb.idx e
       have d:=congrArg Vb.seg e
       unfold tpV at a b d
       dsimp only at a b d
       split at a <;> omega
      refine aI ?_
      conv=>whnf
      refine ⟨k + 1, ?_, by omega, by dsimp only; omega⟩
      dsimp only
      rw [← dp_t_no hno]
      exact Sub.by_ [(1000, .old 1000), (1001, .old 1001), (94, .old 94)] _ 400 rfl (auto_) (auto_)
  refine dI ?_
  conv=>whnf
  refine nI ?_
  rw [tN]
  conv=>whnf
  refine nI ?_
  rw [tN]
  conv=>whnf
  refine cmpI ?_ ?_ <;> (intro e1; conv=>whnf)
  rotate_left
  ·as_aux_lemma =>
    have hno : vars.getD v vb0 ≠ stV' r.start i:=by
     intro e
     have a:=congrArg Vb.kind e
     have b:=congrArg Vb.idx e
     have d:=congrArg Vb.seg e
     unfold stV' at a b d
     dsimp only at a b d
     split at a <;> omega
    refine aI ?_
    conv=>whnf
    refine ⟨i + 1, ?_, by omega, by dsimp only; omega⟩
    dsimp only
    rw [← dp_s_no hno]
    exact Sub.by_ [(1000, .old 1000), (1001, .old 1001), (94, .old 94)] _ 400 rfl (auto_) (auto_)
  refine nI ?_
  rw [tN]
  conv=>whnf
  refine cmpI ?_ ?_ <;> (intro e2; conv=>whnf)
  ·refine cmpI ?_ ?_ <;> (intro e3; conv=>whnf)
   ·as_aux_lemma =>
     have hy : vars.getD v vb0 = stV' r.start i:=by
      refine vb_ext ?_ (hvs (by omega)) e1
      unfold stV'
      dsimp only
      split <;> omega
     have hb:=hdb v i 0 (by omega) (by omega) (vars.getD v vb0)
     refine nI ?_
     rw [tN]
     conv=>whnf
     rw [hget _ v hv2]
     refine aI ?_
     conv=>whnf
     refine nI ?_
     rw [tN]
     conv=>whnf
     refine rowSetI (dpC s r.start r.steps sg vars r.start.states.length r.steps.length v i 0 (vars.getD v vb0) + 1) rfl ?_
     conv=>whnf
     refine aI ?_
     conv=>whnf
     refine ⟨i + 1, ?_, by omega, by dsimp only; omega⟩
     dsimp only
     rw [← dp_s_yes hnd hv2 hy, ← hadd _ v hv2]
     exact Sub.by_ [(1000, .old 1000), (1001, .old 1001), (94, .old 94)] _ 400 rfl (auto_) (auto_)
   ·refine nI ?_
    rw [tN]
    conv=>whnf
    refine fI ?_
    conv=>whnf
    as_aux_lemma =>
     have hno : vars.getD v vb0 ≠ stV' r.start i:=by
      intro e
      have a:=congrArg Vb.kind e
      have b:=congrArg Vb.idx e
      have d:=congrArg Vb.seg e
      unfold stV' at a b d
      dsimp only at a b d
      split at a <;> omega
     refine aI ?_
     conv=>whnf
     refine ⟨i + 1, ?_, by omega, by dsimp only; omega⟩
     dsimp only
     rw [← dp_s_no hno]
     exact Sub.by_ [(1000, .old 1000), (1001, .old 1001), (94, .old 94)] _ 400 rfl (auto_) (auto_)
  ·refine nI ?_
   rw [tN]
   conv=>whnf
   refine cmpI ?_ ?_ <;> (intro e4; conv=>whnf)
   ·refine cmpI ?_ ?_ <;> (intro e5; conv=>whnf)
    ·as_aux_lemma =>
      have hy : vars.getD v vb0 = stV' r.start i:=by
       refine vb_ext ?_ (hvs (by omega)) e1
       unfold stV'
       dsimp only
       split <;> omega
      have hb:=hdb v i 0 (by omega) (by omega) (vars.getD v vb0)
      refine nI ?_
      rw [tN]
      conv=>whnf
      rw [hget _ v hv2]
      refine aI ?_
      conv=>whnf
      refine nI ?_
      rw [tN]
      conv=>whnf
      refine rowSetI (dpC s r.start r.steps sg vars r.start.states.length r.steps.length v i 0 (vars.getD v vb0) + 1) rfl ?_
      conv=>whnf
      refine aI ?_
      conv=>whnf
      refine ⟨i + 1, ?_, by omega, by dsimp only; omega⟩
      dsimp only
      rw [← dp_s_yes hnd hv2 hy, ← hadd _ v hv2]
      exact Sub.by_ [(1000, .old 1000), (1001, .old 1001), (94, .old 94)] _ 400 rfl (auto_) (auto_)
    ·as_aux_lemma =>
      have hno : vars.getD v vb0 ≠ stV' r.start i:=by
       intro e
       have a:=congrArg Vb.kind e
       have b:=congrArg Vb.idx e
       have d:=congrArg Vb.seg e
       unfold stV' at a b d
       dsimp only at a b d
       split at a <;> omega
      refine aI ?_
      conv=>whnf
      refine ⟨i + 1, ?_, by omega, by dsimp only; omega⟩
      dsimp only
      rw [← dp_s_no hno]
      exact Sub.by_ [(1000, .old 1000), (1001, .old 1001), (94, .old 94)] _ 400 rfl (auto_) (auto_)
   ·as_aux_lemma =>
     have hno : vars.getD v vb0 ≠ stV' r.start i:=by
      intro e
      have a:=congrArg Vb.kind e
      have b:=congrArg Vb.idx e
      have d:=congrArg Vb.seg e
      unfold stV' at a b d
      dsimp only at a b d
      split at a <;> omega
     refine aI ?_
     conv=>whnf
     refine ⟨i + 1, ?_, by omega, by dsimp only; omega⟩
     dsimp only
     rw [← dp_s_no hno]
     exact Sub.by_ [(1000, .old 1000), (1001, .old 1001), (94, .old 94)] _ 400 rfl (auto_) (auto_)
end Go.Proofs.YtnjggjhkfncnlaaGreatDoor
