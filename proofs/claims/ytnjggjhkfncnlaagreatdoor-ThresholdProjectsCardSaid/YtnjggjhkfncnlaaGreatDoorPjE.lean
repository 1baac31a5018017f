import Derived.Test.YtnjggjhkfncnlaaGreatDoorPjC
import Derived.Test.YtnjggjhkfncnlaaGreatDoorPjD
import Derived.Test.YtnjggjhkfncnlaaGreatDoorGB
import Derived.Test.YtnjggjhkfncnlaaGreatDoorW3
set_option linter.unusedVariables false
set_option linter.unusedSimpArgs false
namespace Go.Proofs.YtnjggjhkfncnlaaGreatDoor
set_option maxRecDepth 100000
set_option maxHeartbeats 16000000
def pjOk (p : Pro) (q : Prp) (s : Siz) (r : Rn) : Prop:=VC p s r.start ∧ runOk p s r.start r.steps ∧ isI p q s r.start
noncomputable instance (p : Pro) (q : Prp) (s : Siz) (r : Rn) : Decidable (pjOk p q s r):=Classical.propDecidable _
noncomputable def pjG (p : Pro) (s : Siz) (r : Rn) : List Int × List Int:=schF p s (trs p r.start r.steps) [] []
noncomputable def pjA (p : Pro) (q : Prp) (s : Siz) (r : Rn) : List Int × List Int × Int :=
 if lszE p q s ≠ 0 then ([], [], lszE p q s) else if ¬ pjOk p q s r then ([], [], 10)
 else ((pjG p s r).1, (varL p q (pjG p s r).1).map (pjC s r.start r.steps (pjG p s r).2 r.start.states.length r.steps.length), 0)
def pjV (a : List Int × List Int × Int) : AV:=.tup [.sl 0 encI a.1, .sl 0 encI a.2.1, .int .i64 a.2.2]
theorem PSpec.pj {f : FuncId} {args : List AV} {a : List Int × List Int × Int} (h : PSpec Tryz.prog f args (fun u=>u = pjV a ∨ (a.1 = [] ∧ a.2.1 = [] ∧ u = .tup [.nilsl, .nilsl, .int .i64 a.2.2]))) : PSpec Tryz.prog f args (fun u=>u = pjV a) :=
 PSpec.sub h (by
  rintro _ (rfl | ⟨h1, h2, rfl⟩)
  ·exact ⟨_, rfl, by unfold pjV; repeat' (first | exact True.intro | exact rfl | (refine And.intro ?_ ?_) | ((conv=>whnf); omega) | ((conv=>whnf); simp only [List.length_append, List.length_cons, List.length_nil]; done) | ((conv=>whnf); simp only [List.length_append, List.length_cons, List.length_nil]; omega)), rfl⟩
  ·exact ⟨_, rfl, by unfold pjV; rw [h1, h2]; repeat' (first | exact True.intro | exact rfl | (refine And.intro ?_ ?_) | ((conv=>whnf); omega) | ((conv=>whnf); simp only [List.length_append, List.length_cons, List.length_nil]; done) | ((conv=>whnf); simp only [List.length_append, List.length_cons, List.length_nil]; omega)), rfl⟩)
structure PjOk (p : Pro) (q : Prp) (s : Siz) (r : Rn) : Prop where
 prp : propE p q = 0
 thr : thrB p
 rdy : Rdy p s r.start
 run : runOk p s r.start r.steps
 ini : isI p q s r.start
 len : r.steps.length ≤ 48
 sta : r.start.states.length ≤ 8
 sch : schB (thrL p.rules).length (pjG p s r).1
 seg : (pjG p s r).2.length = r.steps.length + 1
theorem pj_ok {p : Pro} {q : Prp} {s : Siz} {r : Rn} (h : lszE p q s = 0) (hr : pjOk p q s r) : PjOk p q s r:=by
 obtain ⟨hp, ht, hz, _⟩:=lsz_ok h
 have hv:=(vlq_of hp).vld
 have rd:=rdy_vc (vcon_vc hz hr.1)
 have hS:=schF_ok p s (trs p r.start r.steps) [] []
 have hl:=run_len ht rd hr.2.1
 have hp0:=pot_max rd
 have hst:=rd.vc.len
 have hsz:=rd.sz
 have hm : modN p s ≤ 8:=by unfold modN; split <;> omega
 refine ⟨hp, ht, rd, hr.2.1, hr.2.2, by omega, by omega, sch_of (hS.nod (by simp)) (hS.rng (fun x hx=>by cases hx)), ?_⟩
 have:=hS.sgl
 rw [trs_len] at this
 unfold pjG
 simpa using this
theorem base_row (p : Pro) (q : Prp) (sch : List Int) (s : Siz) : (((List.replicate (varL p q sch).length (0 : Int)).set 0 s.n).set 1 s.t).set 2 s.f = (varL p q sch).map (bsC s):=by
 obtain ⟨rest, hr⟩ : ∃ rest, varL p q sch = ⟨0, 0, 0⟩ :: ⟨1, 0, 0⟩ :: ⟨2, 0, 0⟩ :: rest:=⟨stV p q ++ (List.range (sch.length + 1)).flatMap fun j=>segV p sch j p.rules.length, by
  unfold varL
  rw [List.append_assoc]
  rfl⟩
 have hk : ∀ v ∈ rest, bsC s v = 0:=fun v hv=>by
  have hn : 3 ≤ v.kind:=by
   have e : rest = stV p q ++ (List.range (sch.length + 1)).flatMap fun j=>segV p sch j p.rules.length:=by
    have h2 : varL p q sch = ⟨0, 0, 0⟩ :: ⟨1, 0, 0⟩ :: ⟨2, 0, 0⟩ :: (stV p q ++ (List.range (sch.length + 1)).flatMap fun j=>segV p sch j p.rules.length):=by
     unfold varL
     rw [List.append_assoc]
     rfl
    rw [hr] at h2
    injection h2 with _ h2
    injection h2 with _ h2
    injection h2 with _ h2
   rw [e] at hv
   rcases List.mem_append.1 hv with hv | hv
   ·unfold stV at hv
    rcases List.mem_append.1 hv with hv | hv
    ·obtain ⟨x, _, rfl⟩:=List.mem_map.1 hv; dsimp only; omega
    ·split at hv
     ·obtain ⟨x, _, rfl⟩:=List.mem_map.1 hv; dsimp only; omega
     ·cases hv
   ·obtain ⟨j, _, hv⟩:=List.mem_flatMap.1 hv
    obtain ⟨r, _, hv⟩:=segV_mem hv
    have:=(ruV_mem hv).1
    omega
  unfold bsC
  rw [if_neg (fun e=>by subst e; dsimp only at hn; omega), if_neg (fun e=>by subst e; dsimp only at hn; omega), if_neg (fun e=>by subst e; dsimp only at hn; omega)]
 rw [hr, List.map_cons, List.map_cons, List.map_cons, List.length_cons, List.length_cons, List.length_cons, List.replicate_succ, List.replicate_succ, List.replicate_succ]
 have hm : rest.map (bsC s) = List.replicate rest.length 0:=List.map_eq_replicate_iff.2 hk
 rw [hm]
 rfl
theorem ProjectF (p : Pro) (q : Prp) (s : Siz) (r : Rn) (hp : okP p) (hq : okQ q) (hc : okC r.start) (hl : r.steps.length ≤ 140737488355328) :
  PSpec Tryz.prog 6 [.agg (encP p), .agg (encQ q), .agg (encZ s), .agg (encRn r)] (fun u=>u = pjV (pjA p q s r)):=by
 refine PSpec.pj ?_
 have he:=pjA.eq_1 p q s r
 generalize pjA p q s r = A at he
 have hL:=loadSizedF p q s hp hq
 refine PSpec.intro tt_ok mx_ok Tryz.func6 rfl (by decide) ?_; (conv=>whnf)
 refine boxP rfl ?_
 conv=>whnf
 refine boxP rfl ?_
 conv=>whnf
 refine boxP rfl ?_
 conv=>whnf
 refine boxP rfl ?_
 conv=>whnf
 by_cases h : lszE p q s = 0
 rotate_left
 ·rw [if_pos h] at he
  rw [if_neg h] at hL
  subst he
  (refine oP (hL) ?_; conv=>whnf)
  refine cmpT h ?_
  conv=>whnf
  exact ⟨.inr ⟨rfl, rfl, rfl⟩, rfl⟩
 rw [if_neg (fun y=>y h)] at he
 rw [if_pos h] at hL
 obtain ⟨h1, ht, hz, hz2⟩:=lsz_ok h
 have hv:=(vlq_of h1).vld
 have hR:=ReplayF p s r hp hv ht hc hl
 (refine oP (hL) ?_; conv=>whnf)
 refine fI ?_
 conv=>whnf
 by_cases hvc : VC p s r.start
 rotate_left
 ·rw [if_pos (fun y=>hvc y.1)] at he
  have eT : rpT p s r = rpA [] 10:=by unfold rpT; rw [if_neg (fun y=>y hz), if_neg hvc]
  rw [eT] at hR
  unfold rpA at hR
  subst he
  (refine oP (hR) ?_; conv=>whnf)
  refine cmpT (by decide) ?_
  conv=>whnf
  exact ⟨.inr ⟨rfl, rfl, rfl⟩, rfl⟩
 have eT : rpT p s r = rp p s [r.start] r.start r.steps:=by unfold rpT; rw [if_neg (fun y=>y hz), if_pos hvc]
 by_cases hro : runOk p s r.start r.steps
 rotate_left
 ·rw [if_pos (fun y=>hro y.2.1)] at he
  obtain ⟨e, e0, e1⟩:=rp_no (acc:=[r.start]) hro
  rw [eT, e1] at hR
  unfold rpA at hR
  subst he
  (refine oP (hR) ?_; conv=>whnf)
  refine cmpT e0 ?_
  conv=>whnf
  exact ⟨.inr ⟨rfl, rfl, rfl⟩, rfl⟩
 have rd:=rdy_vc (vcon_vc hz hvc)
 have hI:=initialT p q s r.start h1 ht rd
 rw [eT, rp_ok hro] at hR
 have eR : [r.start] ++ tr p r.start r.steps = trs p r.start r.steps:=rfl
 rw [eR] at hR
 unfold rpA at hR
 by_cases hin : isI p q s r.start
 rotate_left
 ·rw [if_pos (fun y=>hin y.2.2)] at he
  rw [decide_eq_false hin] at hI
  subst he
  (refine oP (hR) ?_; conv=>whnf)
  refine fI ?_
  conv=>whnf
  (refine oP (hI) ?_; conv=>whnf)
  exact ⟨.inr ⟨rfl, rfl, rfl⟩, rfl⟩
 have hk:=pj_ok h ⟨hvc, hro, hin⟩
 rw [if_neg (fun y=>y ⟨hvc, hro, hin⟩)] at he
 rw [decide_eq_true hin] at hI
 (refine oP (hR) ?_; conv=>whnf)
 refine fI ?_
 conv=>whnf
 (refine oP (hI) ?_; conv=>whnf)
 have hlt:=trs_len p r.start r.steps
 have hrdy:=trs_rdy rd hro
 have hlen:=hk.len
 have hthr:=(vld_of hv).thr
 have hsch:=hk.sch
 have hnd:=varL_nodup h1 (pjG p s r).1
 have hvl:=varL_len h1 hsch
 have hmem1 : ∀ i, i < r.start.states.length → stV' r.start i ∈ varL p q (pjG p s r).1:=fun i hi=>start_var h1 ht rd hin hi
 have hmem2 : ∀ k, k < r.steps.length → tpV r.start r.steps (pjG p s r).2 k ∈ varL p q (pjG p s r).1:=fun k hk=>step_var ht rd hro hk
 have hseg:=hk.seg
 have hsl:=sch_len hsch
 have hsta:=hk.sta
 have hbeg:=begP p q (pjG p s r).1 h1 hsch fun n hn=>var_kinds (mem_getD (l:=varL p q (pjG p s r).1) vb0 hn)
 have hGe : pjG p s r = schF p s (trs p r.start r.steps) [] []:=rfl
 have hgl : ∀ (l : List Cfg) (a b : List Int), a.Nodup → (∀ x ∈ a, 0 ≤ x ∧ x < ((thrL p.rules).length : Int)) → a.length ≤ 3:=fun l a b h1 h2=>by
  have:=nodup_len h1 h2
  omega
 refine WPc.loopF tt_ok mx_ok (fun z : Nat × List Int × List Int=>z.1 ≤ r.steps.length + 1 ∧ z.2.2.length = z.1 ∧ (z.2.1.Nodup ∧ ∀ x ∈ z.2.1, 0 ≤ x ∧ x < ((thrL p.rules).length : Int)) ∧ pjG p s r = schF p s ((trs p r.start r.steps).drop z.1) z.2.1 z.2.2) (fun z=>[(55, .int .i64 (z.1 : Int)), (14, .row 1000 z.2.1.length 1), (15, .row 1001 z.2.2.length 1)]) (fun z=>[(1000, .row 3 0 encI z.2.1), (1001, .row 3 0 encI z.2.2)]) (fun z=>r.steps.length + 1 - z.1) (0, [], []) ⟨Nat.zero_le _, rfl, ⟨by simp, fun x hx=>by cases hx⟩, rfl⟩ ?_; conv=>whnf
 refine ⟨Sub.by_ [(1000, .nil 1), (1001, .nil 1)] _ 400 rfl (auto_) (auto_), ?_⟩
 rintro ⟨k, sc, sg⟩ ⟨k1, k2, ⟨k3, k4⟩, k5⟩
 dsimp only at k1 k2 k3 k4 k5
 have hs3:=hgl [] sc sg k3 k4
 conv=>whnf
 refine cmpI ?_ ?_ <;> (intro g1; conv=>whnf)
 ·have hkl : k < (trs p r.start r.steps).length:=by omega
  have hrk:=hrdy k (by omega)
  rw [List.drop_eq_getElem_cons hkl, ← getD_elem cfg0 hkl] at k5
  have hU:=unlockedG p s ((trs p r.start r.steps).getD k cfg0) hp hrk
  refine nI ?_
  rw [tN]
  conv=>whnf
  have hUl:=unlL_len p s ((trs p r.start r.steps).getD k cfg0) (thrL p.rules).length
  have hUm : ∀ x ∈ unlL p s ((trs p r.start r.steps).getD k cfg0) (thrL p.rules).length, 0 ≤ x ∧ x < ((thrL p.rules).length : Int):=fun x hx=>by
   obtain ⟨i, hi, rfl, _⟩:=(unlL_mem p s _).1 hx
   omega
  have k6 : pjG p s r = schF p s ((trs p r.start r.steps).drop (k + 1)) (addL sc (unlL p s ((trs p r.start r.steps).getD k cfg0) (thrL p.rules).length)) (sg ++ [((addL sc (unlL p s ((trs p r.start r.steps).getD k cfg0) (thrL p.rules).length)).length : Int)]):=k5
  clear k5
  generalize (trs p r.start r.steps).getD k cfg0 = ck at *
  generalize unlL p s ck (thrL p.rules).length = now at *
  (refine oP (hU) ?_; conv=>whnf)
  refine WPc.loopF tt_ok mx_ok (fun y : Nat × List Int=>y.1 ≤ now.length ∧ (y.2.Nodup ∧ ∀ x ∈ y.2, 0 ≤ x ∧ x < ((thrL p.rules).length : Int)) ∧ addL sc now = addL y.2 (now.drop y.1)) (fun y=>[(64, .int .i64 (y.1 : Int)), (14, .row 1000 y.2.length 1)]) (fun y=>[(17, .box 36 (encC ck)), (1000, .row 3 0 encI y.2), (1001, .row 3 0 encI sg)]) (fun y=>now.length - y.1) (0, sc) ⟨Nat.zero_le _, ⟨k3, k4⟩, rfl⟩ ?_; conv=>whnf
  refine ⟨Sub.by_ [(17, .old 17), (1000, .old 1000), (1001, .old 1001)] _ 400 rfl (auto_) (auto_), ?_⟩
  rintro ⟨m, sd⟩ ⟨m1, ⟨m2, m3⟩, m4⟩
  dsimp only at m1 m2 m3 m4
  have hd3:=hgl [] sd sg m2 m3
  conv=>whnf
  refine cmpI ?_ ?_ <;> (intro g2; conv=>whnf)
  ·have hml : m < now.length:=by omega
   refine nI ?_
   rw [tN]
   conv=>whnf
   have hgm:=hUm _ (mem_getD (0 : Int) hml)
   rw [List.drop_eq_getElem_cons hml, ← getD_elem 0 hml] at m4
   generalize now.getD m 0 = g at *
   have hC:=iContainsF sd g (by omega)
   by_cases hg : g ∈ sd
   ·rw [decide_eq_true hg] at hC
    rw [addL, if_pos hg] at m4
    (refine Spec.borrow (n:=5) (hC) rfl (by rintro _ rfl; rfl) ?_; rintro _ rfl; conv=>whnf)
    repeat' ((first|refine nI ?_|refine aI ?_|refine arU trivial (by omega) ?_|refine arB trivial (by omega) ?_|refine dI ?_|refine dR ?_|refine dP ?_|refine boxP rfl ?_|refine pI _ rfl ?_|refine rowSetI _ rfl ?_|refine tI ?_|refine fI ?_|refine cmpI (fun _=>?_) (fun _=>?_)) <;> conv=>whnf)
    exact ⟨(m + 1, sd), Sub.by_ [(17, .old 17), (1000, .old 1000), (1001, .old 1001)] _ 400 rfl (auto_) (auto_), ⟨by dsimp only; omega, ⟨m2, m3⟩, m4⟩, by dsimp only; omega⟩
   ·rw [decide_eq_false hg] at hC
    rw [addL, if_neg hg] at m4
    (refine Spec.borrow (n:=5) (hC) rfl (by rintro _ rfl; rfl) ?_; rintro _ rfl; conv=>whnf)
    refine appI [g] rfl lI ?_
    conv=>whnf
    repeat' ((first|refine nI ?_|refine aI ?_|refine arU trivial (by omega) ?_|refine arB trivial (by omega) ?_|refine dI ?_|refine dR ?_|refine dP ?_|refine boxP rfl ?_|refine pI _ rfl ?_|refine rowSetI _ rfl ?_|refine tI ?_|refine fI ?_|refine cmpI (fun _=>?_) (fun _=>?_)) <;> conv=>whnf)
    refine ⟨(m + 1, sd ++ [g]), Sub.by_ [(17, .old 17), (1000, .old 75), (1001, .old 1001)] _ 400 rfl (auto_) (auto_), ⟨by dsimp only; omega, ⟨?_, fun x hx=>?_⟩, m4⟩, by dsimp only; omega⟩
    ·dsimp only
     rw [List.nodup_append]
     refine ⟨m2, by simp, fun a ha b hb e=>?_⟩
     rw [List.mem_singleton] at hb
     subst hb; subst e
     exact hg ha
    ·rcases List.mem_append.1 hx with hx | hx
     ·exact m3 x hx
     ·rw [List.mem_singleton] at hx
      subst hx
      exact hgm
  ·obtain rfl : m = now.length:=by omega
   rw [List.drop_length, addL] at m4
   rw [m4] at k6
   refine appI [(sd.length : Int)] rfl lI ?_
   conv=>whnf
   refine aI ?_
   conv=>whnf
   exact ⟨(k + 1, sd, sg ++ [(sd.length : Int)]), Sub.by_ [(1000, .old 1000), (1001, .old 81)] _ 400 rfl (auto_) (auto_), ⟨by dsimp only; omega, by dsimp only; rw [List.length_append, List.length_singleton]; omega, ⟨m2, m3⟩, k6⟩, by dsimp only; omega⟩
 ·obtain rfl : k = r.steps.length + 1:=by omega
  rw [List.drop_of_length_le (by omega), schF] at k5
  have hbr:=base_row p q sc s
  rw [k5] at he hsch hnd hvl hmem1 hmem2 hseg hsl hbeg
  dsimp only at he hsch hnd hvl hmem1 hmem2 hseg hsl hbeg
  have hv3 : 3 ≤ (varL p q sc).length:=by unfold varL; simp only [List.length_append, List.length_cons, List.length_nil]; omega
  have hsz:=rd.sz
  have hst2:=rd.adm.1
  unfold admA at hst2
  have hcb : ∀ i k : Nat, i ≤ 8 → k ≤ 48 → cwB 1152921504606846976 (pjC s r.start r.steps sg i k):=fun i k hi hk v=>by
   have a1:=cS_b r.start v i
   have b1:=cT_b r.start r.steps sg v k
   have hb : 0 ≤ bsC s v ∧ bsC s v ≤ 8:=by
    unfold bsC
    split
    ·omega
    ·split
     ·omega
     ·split <;> omega
   unfold pjC
   omega
  have hup1:=fun i=>pjC_s s r.start r.steps sg i
  have hup2:=fun k=>pjC_t s r.start r.steps sg r.start.states.length k
  have h00 : (varL p q sc).map (bsC s) = (varL p q sc).map (pjC s r.start r.steps sg 0 0):=List.map_congr_left fun w _=>by
   unfold pjC
   rw [cS, cT]
   omega
  rw [h00] at hbr
  generalize varL p q sc = vars at *
  refine Spec.hand 1000 rfl ?_
  refine Spec.news 400 idB (bdL p q sc vars []) (.ptr 200 0) hbeg (auto_) rfl (by rintro u M' ⟨rfl, rfl⟩; exact ⟨(auto_), (auto_)⟩) ?_
  conv=>whnf
  refine mkI 0 encI 0 rfl (by dsimp only; omega) ?_
  rw [tN]
  conv=>whnf
  apply once6
  case k =>
   intro o1 o2 o3 o4 o5 o6
   refine drawP1 [3, 4, 5, 6, 7, 8, 9, 11, 13] (by decide +kernel) ?_
   conv=>whnf
   repeat' first
    |exact True.intro
    |(refine And.intro ?_ ?_ <;> conv=>whnf)
    |(refine needI (by clear o1 o2 o3 o4 o5 o6; omega) ?_; conv=>whnf)
    |(refine rowSetI s.n rfl ?_; conv=>whnf)
    |(refine rowSetI s.t rfl ?_; conv=>whnf)
    |(refine rowSetI s.f rfl ?_; conv=>whnf)
    |with_reducible exact o1
    |with_reducible exact o2
    |with_reducible exact o3
    |with_reducible exact o4
    |with_reducible exact o5
    |with_reducible exact o6
    |fail
  all_goals try first
   |exact True.intro
   |exact True
  all_goals
   refine WPc.loopF tt_ok mx_ok (fun i : Nat=>i ≤ r.start.states.length) (fun i=>[(108, .int .i64 (i : Int))]) (fun i=>[(20, .box 70 [.ptr 200 0]), (21, .box 24 [.row 90 vars.length 1]), (90, .row 3 0 encI (vars.map (pjC s r.start r.steps sg i 0))), (1000, .gone (0 : Int) encI sc), (1001, .row 3 0 encI sg)] ++ bdL p q sc vars []) (fun i=>r.start.states.length - i) 0 (Nat.zero_le _) ?_; conv=>whnf
   refine ⟨by rw [← hbr]; exact Sub.by_ ([(20, .old 20), (21, .old 21), (90, .old 90), (1000, .old 1000), (1001, .old 1001)] ++ idB) _ 400 rfl (auto_) (auto_), ?_⟩
   rintro i hi
   conv=>whnf
   refine cmpI ?_ ?_ <;> (intro g2; conv=>whnf)
   rotate_left
   ·obtain rfl : i = r.start.states.length:=by omega
    refine WPc.loopF tt_ok mx_ok (fun k : Nat=>k ≤ r.steps.length) (fun k=>[(125, .int .i64 (k : Int))]) (fun k=>[(20, .box 70 [.ptr 200 0]), (21, .box 24 [.row 90 vars.length 1]), (90, .row 3 0 encI (vars.map (pjC s r.start r.steps sg r.start.states.length k))), (1000, .gone (0 : Int) encI sc), (1001, .row 3 0 encI sg)] ++ bdL p q sc vars []) (fun k=>r.steps.length - k) 0 (Nat.zero_le _) ?_; conv=>whnf
    refine ⟨Sub.by_ ([(20, .old 20), (21, .old 21), (90, .old 90), (1000, .old 1000), (1001, .old 1001)] ++ idB) _ 400 rfl (auto_) (auto_), ?_⟩
    rintro k hk
    conv=>whnf
    refine cmpI ?_ ?_ <;> (intro g3; conv=>whnf)
    rotate_left
    ·obtain rfl : k = r.steps.length:=by omega
     subst he
     refine drawE ?_
     conv=>whnf
     repeat' first
      |exact True.intro
      |(refine And.intro ?_ ?_ <;> conv=>whnf)
      |exact .inl rfl
      |exact rfl
      |fail
    refine nI ?_
    rw [tN]
    conv=>whnf
    have hm:=hmem2 k (by omega)
    have hu:=hup2 k
    refine drawO (by decide +kernel) ?_
    conv=>whnf
    refine cmpI ?_ ?_ <;> (intro g4; conv=>whnf)
    ·have e1 : tpV r.start r.steps sg k = ⟨5, sg.getD k 0, (r.steps.getD k stp0).rule⟩:=by unfold tpV; rw [if_pos g4]
     rw [e1] at hm hu
     have hcnt:=countP p q sc vars (pjC s r.start r.steps sg r.start.states.length k) hnd (by omega) true 5 6 (sg.getD k 0) (r.steps.getD k stp0).rule 5 rfl (.inr ⟨rfl, rfl⟩) hm (hcb r.start.states.length k (by omega) (by omega))
     rw [hu] at hcnt
     refine nI ?_
     rw [tN]
     conv=>whnf
     refine Spec.call ([(220, .old 20), (221, .old 21), (230, .old 90)] ++ idB) (pcL p q sc vars (pjC s r.start r.steps sg r.start.states.length k)) 400 rfl (auto_) (auto_) hcnt ?_
     rintro u M' ⟨rfl, rfl⟩
     refine ⟨[(20, .old 220), (21, .old 221), (90, .old 230)] ++ idB, [(20, .box 70 [.ptr 200 0]), (21, .box 24 [.row 90 vars.length 1]), (90, .row 3 0 encI (vars.map (pjC s r.start r.steps sg r.start.states.length (k + 1))))] ++ bdL p q sc vars [], .tup [], rfl, (auto_), trivial, ?_⟩
     conv=>whnf
     refine aI ?_
     conv=>whnf
     exact ⟨k + 1, Sub.by_ ([(20, .old 20), (21, .old 21), (90, .old 90), (1000, .old 1000), (1001, .old 1001)] ++ idB) _ 400 rfl (auto_) (auto_), by omega, by dsimp only; omega⟩
    ·have e1 : tpV r.start r.steps sg k = ⟨6, sg.getD k 0, (r.steps.getD k stp0).rule⟩:=by unfold tpV; rw [if_neg g4]
     rw [e1] at hm hu
     have hcnt:=countP p q sc vars (pjC s r.start r.steps sg r.start.states.length k) hnd (by omega) false 5 6 (sg.getD k 0) (r.steps.getD k stp0).rule 6 rfl (.inr ⟨rfl, rfl⟩) hm (hcb r.start.states.length k (by omega) (by omega))
     rw [hu] at hcnt
     refine nI ?_
     rw [tN]
     conv=>whnf
     refine Spec.call ([(220, .old 20), (221, .old 21), (230, .old 90)] ++ idB) (pcL p q sc vars (pjC s r.start r.steps sg r.start.states.length k)) 400 rfl (auto_) (auto_) hcnt ?_
     rintro u M' ⟨rfl, rfl⟩
     refine ⟨[(20, .old 220), (21, .old 221), (90, .old 230)] ++ idB, [(20, .box 70 [.ptr 200 0]), (21, .box 24 [.row 90 vars.length 1]), (90, .row 3 0 encI (vars.map (pjC s r.start r.steps sg r.start.states.length (k + 1))))] ++ bdL p q sc vars [], .tup [], rfl, (auto_), trivial, ?_⟩
     conv=>whnf
     refine aI ?_
     conv=>whnf
     exact ⟨k + 1, Sub.by_ ([(20, .old 20), (21, .old 21), (90, .old 90), (1000, .old 1000), (1001, .old 1001)] ++ idB) _ 400 rfl (auto_) (auto_), by omega, by dsimp only; omega⟩
   refine nI ?_
   rw [tN]
   conv=>whnf
   have hm:=hmem1 i (by omega)
   have hu:=hup1 i
   refine cmpI ?_ ?_ <;> (intro g3; conv=>whnf)
   ·have e1 : stV' r.start i = ⟨3, 0, r.start.states.getD i 0⟩:=by unfold stV'; rw [if_pos g3]
    rw [e1] at hm hu
    have hcnt:=countP p q sc vars (pjC s r.start r.steps sg i 0) hnd (by omega) true 3 4 0 (r.start.states.getD i 0) 3 rfl (.inl ⟨rfl, rfl⟩) hm (hcb i 0 (by omega) (by omega))
    rw [hu] at hcnt
    refine Spec.call ([(220, .old 20), (221, .old 21), (230, .old 90)] ++ idB) (pcL p q sc vars (pjC s r.start r.steps sg i 0)) 400 rfl (auto_) (auto_) hcnt ?_
    rintro u M' ⟨rfl, rfl⟩
    refine ⟨[(20, .old 220), (21, .old 221), (90, .old 230)] ++ idB, [(20, .box 70 [.ptr 200 0]), (21, .box 24 [.row 90 vars.length 1]), (90, .row 3 0 encI (vars.map (pjC s r.start r.steps sg (i + 1) 0)))] ++ bdL p q sc vars [], .tup [], rfl, (auto_), trivial, ?_⟩
    conv=>whnf
    refine aI ?_
    conv=>whnf
    exact ⟨i + 1, Sub.by_ ([(20, .old 20), (21, .old 21), (90, .old 90), (1000, .old 1000), (1001, .old 1001)] ++ idB) _ 400 rfl (auto_) (auto_), by omega, by dsimp only; omega⟩
   ·have e1 : stV' r.start i = ⟨4, 0, r.start.states.getD i 0⟩:=by unfold stV'; rw [if_neg g3]
    rw [e1] at hm hu
    have hcnt:=countP p q sc vars (pjC s r.start r.steps sg i 0) hnd (by omega) false 3 4 0 (r.start.states.getD i 0) 4 rfl (.inl ⟨rfl, rfl⟩) hm (hcb i 0 (by omega) (by omega))
    rw [hu] at hcnt
    refine Spec.call ([(220, .old 20), (221, .old 21), (230, .old 90)] ++ idB) (pcL p q sc vars (pjC s r.start r.steps sg i 0)) 400 rfl (auto_) (auto_) hcnt ?_
    rintro u M' ⟨rfl, rfl⟩
    refine ⟨[(20, .old 220), (21, .old 221), (90, .old 230)] ++ idB, [(20, .box 70 [.ptr 200 0]), (21, .box 24 [.row 90 vars.length 1]), (90, .row 3 0 encI (vars.map (pjC s r.start r.steps sg (i + 1) 0)))] ++ bdL p q sc vars [], .tup [], rfl, (auto_), trivial, ?_⟩
    conv=>whnf
    refine aI ?_
    conv=>whnf
    exact ⟨i + 1, Sub.by_ ([(20, .old 20), (21, .old 21), (90, .old 90), (1000, .old 1000), (1001, .old 1001)] ++ idB) _ 400 rfl (auto_) (auto_), by omega, by dsimp only; omega⟩
end Go.Proofs.YtnjggjhkfncnlaaGreatDoor
