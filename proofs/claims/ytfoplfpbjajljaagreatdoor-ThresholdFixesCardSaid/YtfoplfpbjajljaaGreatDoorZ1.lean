import Derived.Test.YtfoplfpbjajljaaGreatDoorG6
import Derived.Test.YtfoplfpbjajljaaGreatDoorPlR
import Derived.Test.YtfoplfpbjajljaaGreatDoorX1
import Derived.Test.YtfoplfpbjajljaaGreatDoorX0
import Derived.Test.YtfoplfpbjajljaaGreatDoorW2
set_option linter.unusedVariables false
set_option linter.unusedSimpArgs false
namespace Go.Proofs.YtfoplfpbjajljaaGreatDoor
set_option maxRecDepth 100000
set_option maxHeartbeats 32000000
section
variable {P : Program} {S F : Store} {ρ : Env} {M : Mem} {w : World}
theorem PSpec.of_own {f : FuncId} {args : List AV} {R : AV → Mem → Prop} {R' : AV → Prop} (h : Spec P f args (Mem.ofL []) R)
  (hconv : ∀ u M', R u M' → ∃ u', R' u' ∧ ∀ S F ρ w v, RepM S F ρ M' w → RV S ρ v u → RP (lendS S ρ M' w) v u') : PSpec P f args R' := by
 rw [PSpec_iff]
 rw [Spec_iff] at h
 refine ⟨h.1, ?_⟩
 intro S F vs w hg hs hf hd hv
 refine (h.2 S F (fun _ => none) vs w ⟨hs, hf, hd, by simp, by simp [Mem.ofL], by simp, hg⟩ (hv.rv _)).mono ?_
 rintro e w' ⟨v, u, M', S', ρ', rfl, hR, hle, _, hM', hr, hw⟩
 obtain ⟨u', hR', hc⟩ := hconv u M' hR
 refine ⟨v, u', lendS S' ρ' M' w', rfl, hR', Store.le_trans hle (lendS_le (F := F) hM'), lendS_in hM', hM'.fw, fun k => ?_, hc S' F ρ' w' v hM' hr, hw⟩
 by_cases h : rowAt ρ' M' k
 ·exact .inr (rowAt_off hM' h).2.1
 ·have e : lendS S' ρ' M' w' k = S' k := by unfold lendS; rw [if_neg h]
  rw [e]
  exact hM'.sf k
theorem lendS_at {ℓ : Nat} {B : Blk} {b : Lab} (h1 : M ℓ = some B) (h2 : ρ ℓ = some b) (h3 : lentB B = true) (h4 : B.live b) : lendS S ρ M w b.blk = w.heap[b.blk]? := by
 unfold lendS
 rw [if_pos ⟨ℓ, B, b, h1, h2, h3, h4, rfl⟩]
theorem lend_row (hM : RepM S F ρ M w) {ℓ n sz : Nat} {t : TypeId} {l : List Int} (hl : M ℓ = some (.row t (0 : Int) encI l)) {v : Value} (h : RV S ρ v (.row ℓ n sz)) : RP (lendS S ρ M w) v (.sl 0 encI l) := by
 have := borA_ok hM h
 have e : borA M (.row ℓ n sz) = .sl 0 encI l := by simp only [borA, hl]
 rw [e] at this
 exact this.sl_inv
theorem lend_sys (hM : RepM S F ρ M w) {ℓ n sz : Nat} {t ti : TypeId} {g : Nat → List AV} {rows : List Row} {q : Nat} {lab : Nat → Nat} (hl : M ℓ = some (.hdr t g rows.length)) (hg : ∀ k, k < rows.length → g k = [.row (lab k) q 1, .int .i64 (rows.getD k row0).const])
  (hrow : ∀ k, k < rows.length → M (lab k) = some (.row ti (0 : Int) encI (rows.getD k row0).coef)) {v : Value} (h : RV S ρ v (.row ℓ n sz)) : RP (lendS S ρ M w) v (.sl row0 encRw rows) := by
 obtain ⟨b, hb, hn, hs, hz, rfl⟩ := h.row_inv
 obtain ⟨b', hb', l, hlm, hgv, hlen, hszs, hcase⟩ := hM.blk _ _ hl
 rw [hb] at hb'; cases hb'
 rcases hcase with ⟨hnil, rfl, hcap⟩ | ⟨hnil, hcap, vs, hheap, hsize, hcell, hS, hF⟩
 ·have hc0 : rows = [] := List.eq_nil_of_length_eq_zero (by simpa using hlm.symm)
  subst hc0
  have hl0 : b.len = 0 := by simpa using hlen
  have e : b.hdr = .slice none ([] : List Row).length 0 := by simp [Lab.hdr, hnil, hl0, hcap]
  rw [e]
  exact .sl row0 encRw [] none 0 0 (fun _ _ => undef) (by simp) (by simp) (by simp) (by simp) (by simp) (by simp)
 ·have hlc : rows.length = l.length := by omega
  have e : b.hdr = .slice (some ⟨b.blk, 0, none⟩) rows.length b.cap := by simp [Lab.hdr, hnil, hlen, hlc]
  rw [e]
  have hone : ∀ i, i < rows.length → ∃ x y, l.getD i [] = [x, y] ∧ RV S ρ x (.row (lab i) q 1) ∧ RV S ρ y (.int .i64 (rows.getD i row0).const) := by
   intro i hi
   have h1 := hgv i hi
   rw [hg i hi] at h1
   obtain ⟨x, xs, e1, h2, h3⟩ := h1.cons_inv
   obtain ⟨y, ys, e2, h4, h5⟩ := h3.cons_inv
   rw [e2, h5.nil_inv] at e1
   exact ⟨x, y, e1, h2, h4⟩
  have hget : ∀ i (hi : i < l.length), l.getD i [] = l[i] := fun i hi => by
   rw [gD, gL hi]; rfl
  have hbs : ∀ i, i < rows.length → b.sz = 2 := by
   intro i hi
   obtain ⟨x, y, hx, _⟩ := hone i hi
   have := (hszs _ (List.getElem_mem (show i < l.length by omega))).1
   rw [← hget i (by omega), hx] at this
   simpa [encVs] using this.symm
  have hl1 : lendS S ρ M w b.blk = some (.cells vs t (0, 0)) := by rw [lendS_at hl hb rfl hnil]; exact hheap
  have hval : ∀ i, i < rows.length → ∃ x y, (vs[i * 2]? = some x ∧ vs[i * 2 + 1]? = some y) ∧ RV S ρ x (.row (lab i) q 1) ∧ RV S ρ y (.int .i64 (rows.getD i row0).const) := by
   intro i hi
   obtain ⟨x, y, hx, hr, hr2⟩ := hone i hi
   have e2 : l[i]? = some [x, y] := by
    rw [← hx, hget i (by omega), gL (by omega)]
   obtain ⟨v, hv, hv2⟩ := hcell i [x, y] 0 (.val x) e2 rfl
   cases hv2
   obtain ⟨v, hv', hv2⟩ := hcell i [x, y] 1 (.val y) e2 rfl
   cases hv2
   rw [hbs i hi] at hv hv'
   exact ⟨x, y, ⟨hv, hv'⟩, hr, hr2⟩
  refine .sl row0 encRw rows (some ⟨b.blk, 0, none⟩) b.cap 2 (fun i j => vs.getD (i * 2 + j) undef) (by omega) (fun a _ => rfl) (fun a _ => rfl) (fun i j hi hj => ⟨_, rfl, ?_⟩) (by simp) (fun i a j u hi hu => ?_)
  ·obtain ⟨x, y, ⟨hx, hy⟩, _⟩ := hval i hi
   rw [Addr.add_mk]
   simp only [Store.cell, hl1]
   obtain rfl | rfl : j = 0 ∨ j = 1 := by omega
   ·simp [hx]
   ·simp [hy]
  ·have hil := (List.getElem?_eq_some_iff.1 hi).1
   have ha : a = rows.getD i row0 := by
    rw [gD, hi]; rfl
   obtain ⟨x, y, ⟨hx, hy⟩, hr, hr2⟩ := hval i hil
   have hj2 : j < 2 := by
    have := (List.getElem?_eq_some_iff.1 hu).1
    simpa [encRw] using this
   obtain rfl | rfl : j = 0 ∨ j = 1 := by omega
   ·simp [encRw] at hu
    subst hu
    have e3 : vs.getD (i * 2 + 0) undef = x := by simp [hx]
    rw [e3, ha]
    exact lend_row hM (hrow i hil) hr
   ·simp [encRw] at hu
    subst hu
    have e3 : vs.getD (i * 2 + 1) undef = y := by simp [hy]
    rw [e3, ha, hr2.int_inv]
    exact .int _ _
end
theorem TellL.two {f : Nat → Option LM} {ℓ ℓ' n sz : Nat} {c : Int} (h : f ℓ' = some (.old ℓ)) : TellL f [.row ℓ n sz, .int .i64 c] [.row ℓ' n sz, .int .i64 c] := fun S ρ vs hv => by
 obtain ⟨v, vs', rfl, h1, h2⟩ := hv.cons_inv
 obtain ⟨x, xs, rfl, h3, h4⟩ := h2.cons_inv
 cases h4.nil_inv
 exact RVs.cons (TellA.row h S ρ v h1) (RVs.cons (by rw [h3.int_inv]; exact .p (.int _ _)) (RVs.nil _ _))
theorem retell_own {M : Mem} (hd' : Nat) (lm : LMap) (L : List (Nat × Blk)) (n : Nat) (hd : Nat) (t0 ti : TypeId) (w m : Nat) (c : Nat → List Int) (ex : Nat → Int) (σ : Nat → Option Nat) (lab lab' : Nat → Nat)
  (hs : (keysB lm L && oldsL L lm) = true) (hm : memH lm n M L) (hL : ∀ ℓ t g m', (ℓ, Blk.hdr t g m') ∈ L → ℓ = hd ∧ t = t0 ∧ m' = m ∧ ∀ k, k < m → g k = [.row (lab' k) w 1, .int .i64 (ex k)])
  (h4 : lmFind lm hd = some (.old hd')) (hg : ∃ g, M hd' = some (.hdr t0 g m) ∧ ∀ k, k < m → g k = [.row (lab k) w 1, .int .i64 (ex k)]) (hrow : ∀ k, k < m → M (lab k) = some (.row ti 0 encI (c k)))
  (hσ1 : ∀ x k, σ x = some k → k < m ∧ lmFind lm x = none ∧ Mem.ofL L x = none) (hσ2 : ∀ x y k, σ x = some k → σ y = some k → x = y) (hσ3 : ∀ k, k < m → σ (lab' k) = some k)
  (hlab : ∀ k k', k < m → k' < m → lab k = lab k' → k = k') (hfar : ∀ k, k < m → ∀ y, lmFind lm y = some (.old (lab k)) → Mem.ofL L y = some .dead) :
  Retell (famF lm fun x => (σ x).map lab) M (overM L (rowsN ti σ c)) := by
 refine retell_fam lm L _ _ n hs hm (fun ℓ t g m' hmem => ?_) ⟨fun x B' hB => ?_, fun x o hx => ?_, fun x y o hx hy _ _ => ?_, fun x o k hx _ hk => ?_⟩
 ·obtain ⟨rfl, rfl, rfl, hgg⟩ := hL ℓ t g m' hmem
  unfold hdrG
  rw [h4]
  obtain ⟨g0, h1, h2⟩ := hg
  refine ⟨g0, h1, fun i hi => ?_⟩
  rw [h2 i hi, hgg i hi]
  refine TellL.two (famF_ψ (hσ1 _ _ (hσ3 i hi)).2.1 ?_)
  rw [hσ3 i hi]; rfl
 ·unfold rowsN at hB
  split at hB
  ·rename_i k hk
   cases hB
   obtain ⟨h1, h2, h3⟩ := hσ1 x k hk
   refine ⟨h2, h3, lab k, _, by rw [hk]; rfl, hrow k h1, .inr ⟨rfl, rfl⟩⟩
  ·cases hB
 ·unfold rowsN
  cases hσx : σ x with
  |none => rw [hσx] at hx; cases hx
  |some k => simp
 ·cases h1 : σ x with
  |none => rw [h1] at hx; cases hx
  |some k =>
   cases h2 : σ y with
   |none => rw [h2] at hy; cases hy
   |some k' =>
    rw [h1] at hx
    rw [h2] at hy
    simp only [Option.map_some, Option.some.injEq] at hx hy
    have := hlab k k' (hσ1 x k h1).1 (hσ1 y k' h2).1 (hx.trans hy.symm)
    subst this
    exact hσ2 x y k h1 h2
 ·cases h1 : σ x with
  |none => rw [h1] at hx; cases hx
  |some i =>
   rw [h1] at hx
   simp only [Option.map_some, Option.some.injEq] at hx
   subst hx
   exact hfar i (hσ1 x i h1).1 k hk
structure SysS (M : Mem) (n : Nat) (rows : List Row) (lab : Nat → Nat) : Prop where
 hdr : ∃ g, M 204 = some (.hdr 102 g rows.length) ∧ ∀ k, k < rows.length → g k = [.row (lab k) n 1, .int .i64 (rows.getD k row0).const]
 row : ∀ k, k < rows.length → M (lab k) = some (.row 3 0 encI (rows.getD k row0).coef)
 inj : ∀ k k', k < rows.length → k' < rows.length → lab k = lab k' → k = k'
 far : ∀ k, k < rows.length → lab k ≠ 204
theorem sys_own {S F : Store} {ρ : Env} {M : Mem} {w : World} {v : Value} {n m : Nat} {rows : List Row} {lab : Nat → Nat} (h : SysS M n rows lab) (hM : RepM S F ρ M w) {vars e : Int} (hv : RV S ρ v (.tup [.agg [.int .i64 vars, .row 204 m 2], .int .i64 e])) :
  RP (lendS S ρ M w) v (.tup [.agg [.int .i64 vars, .sl row0 encRw rows], .int .i64 e]) := by
 obtain ⟨g, hg1, hg2⟩ := h.hdr
 obtain ⟨vs, rfl, hr⟩ := hv.tup_inv
 obtain ⟨v1, vs1, e1, h1, h2⟩ := hr.cons_inv
 obtain ⟨v2, vs2, e2, h3, h4⟩ := h2.cons_inv
 have e4 := h4.nil_inv
 obtain ⟨cs, rfl, hc⟩ := h1.agg_inv
 obtain ⟨a1, as1, f1, k1, k2⟩ := hc.cons_inv
 obtain ⟨a2, as2, f2, k3, k4⟩ := k2.cons_inv
 have f4 := k4.nil_inv
 have hsl := lend_sys hM hg1 hg2 h.row k3
 have hagg : RP (lendS S ρ M w) (.agg cs) (.agg [.int .i64 vars, .sl row0 encRw rows]) := by
  have := RPs.cons (S := lendS S ρ M w) (show RP _ a1 (.int .i64 vars) by rw [k1.int_inv]; exact .int _ _) (RPs.cons hsl (RPs.nil _))
  rw [f2, f4] at f1
  rw [← f1] at this
  have h5 := persN_ok (ρ := fun _ => none) 5 rfl (RV.agg_mk (this.rv (fun _ => none)))
  simpa using h5
 have := RPs.cons (S := lendS S ρ M w) hagg (RPs.cons (show RP _ v2 (.int .i64 e) by rw [h3.int_inv]; exact .int _ _) (RPs.nil _))
 rw [e2, e4] at e1
 rw [← e1] at this
 have h5 := persN_ok (ρ := fun _ => none) 5 rfl (RV.tup_mk (this.rv (fun _ => none)))
 simpa using h5
end Go.Proofs.YtfoplfpbjajljaaGreatDoor
namespace Go.Proofs.YtfoplfpbjajljaaGreatDoor
set_option maxRecDepth 100000
set_option maxHeartbeats 32000000
theorem drawCY {P : Program} {tt : TT} {ops : List Oper} {fr : List AV} {M : Mem} {K : List AV → Mem → Prop} (qs : List Nat) (hqs : qs.all (qOkC ops) = true) (h : ordsC P tt none ops qs K ops.length [] fr M) : drawK P tt ops fr M K :=
 drawZ (by rw [ordsC_eq (.inl rfl) hqs] at h; exact h)
theorem ofL_out {L : List (Nat × Blk)} {x : Nat} (h : ∀ q ∈ L, q.1 ≠ x) : Mem.ofL L x = none := by
 cases hf : Mem.ofL L x with
 |none => rfl
 |some y => exact absurd rfl (h _ (ofL_mem hf))
theorem lm_out {lm : LMap} {x : Nat} (h : ∀ q ∈ lm, q.1 ≠ x) : lmFind lm x = none := by
 cases hf : lmFind lm x with
 |none => rfl
 |some y => exact absurd rfl (h _ (lmFind_mem hf))
theorem over_row {L : List (Nat × Blk)} {ti : TypeId} {p m : Nat} {a : List (Nat × Nat)} {c : Nat → List Int} {k : Nat} (hw : wfA p m a) (hk : k < m) (h : ∀ q ∈ L, q.1 ≠ lbF p a k) : overM L (rowsN ti (sgF p m a) c) (lbF p a k) = some (.row ti 0 encI (c k)) := by
 unfold overM
 rw [ofL_out h]
 dsimp only
 unfold rowsN
 rw [sgF_lb hw hk]
theorem cloneOwn (r : Row) (hl : r.coef.length ≤ 1000000) : Spec Tryz.prog 134 [.agg (encRw r)] (Mem.ofL []) (fun u M => u = .agg [.row 7 r.coef.length 1, .int .i64 r.const] ∧ M 7 = some (.row 3 0 encI r.coef)) := by
 refine Spec.intro tt_ok mx_ok [] Tryz.func134 rfl (by decide) ?_
 conv => whnf
 refine boxP rfl ?_
 conv => whnf
 refine mkI 0 encI 0 rfl (by dsimp only; omega) ?_
 rw [tN]
 conv => whnf
 refine copI r.coef (by simp) rfl ?_
 conv => whnf
 exact ⟨rfl, rfl⟩
def rwC (rows : List Row) (k : Nat) : List Int := (rows.getD k row0).coef
def rwK (rows : List Row) (k : Nat) : Int := (rows.getD k row0).const
def smL (v : Int) (n : Nat) (rows : List Row) (i : Nat) : List (Nat × Blk) :=
 [(2, .box 56 [.int .i64 0, .nilsl]), (3, .box 56 [.int .i64 v, .row 204 i 2]), (204, .hdr 102 (fun k => [.row (lbF 400 [] k) n 1, .int .i64 (rwK rows k)]) i), (9999, .row 3 (0 : Int) encI [])]
def smM (v : Int) (n : Nat) (rows : List Row) (i : Nat) : Mem := overM (smL v n rows i) (rowsN 3 (sgF 400 i []) (rwC rows))
def lmS0 : LMap := [(2, .old 2), (3, .old 3), (204, .nil 2), (9999, .nil 1)]
def lmS1 (d : Nat) : LMap := [(2, .old 2), (3, .old 3), (204, .old d), (9999, .old 9999)]
def labS (i k : Nat) : Nat := match Nat.blt k i with
 |true => 400 + k
 |false => 300
theorem labS_lt {i k : Nat} (h : k < i) : labS i k = 400 + k := by
 unfold labS
 have : Nat.blt k i = true := by simp only [Nat.blt, Nat.ble_eq]; omega
 rw [this]
theorem labS_ge {i k : Nat} (h : ¬ k < i) : labS i k = 300 := by
 unfold labS
 have : Nat.blt k i = false := by
  cases hb : Nat.blt k i with
  |false => rfl
  |true => simp only [Nat.blt, Nat.ble_eq] at hb; omega
 rw [this]
theorem sm_ini {v : Int} {n : Nat} {rows : List Row} {M : Mem} {fr fr' : List AV} (hm : memH lmS0 400 M (smL v n rows 0)) (hf : avRs lmS0 400 fr fr') : Sub [] fr M fr' (smM v n rows 0) := by
 refine Sub.fam lmS0 (smL v n rows 0) _ (fun _ => none) 400 rfl hm (fun ℓ' t g' m hmem => ?_) ⟨fun x B' hB => ?_, fun x o hx => (by cases hx), fun x y o hx => (by cases hx), fun x o k hx => (by cases hx)⟩ (fun d hd => by cases hd) hf
 ·simp only [smL, List.mem_cons, Prod.mk.injEq, List.not_mem_nil, or_false] at hmem
  rcases hmem with ⟨_, h⟩ | ⟨_, h⟩ | ⟨rfl, h⟩ | ⟨_, h⟩
  ·cases h
  ·cases h
  ·injection h with h1 h2 h3
  ·cases h
 ·unfold rowsN at hB
  cases hs : sgF 400 0 [] x with
  |none => rw [hs] at hB; cases hB
  |some k => exact absurd (sgF_some (a := []) trivial hs).1 (Nat.not_lt_zero _)
theorem sm_keys {v : Int} {n : Nat} {rows : List Row} {i x : Nat} (h : 400 ≤ x) (h2 : x < 9000) : ∀ q ∈ smL v n rows i, q.1 ≠ x := by
 intro q hq
 unfold smL at hq
 simp only [List.mem_cons, List.not_mem_nil, or_false] at hq
 rcases hq with rfl | rfl | rfl | rfl <;> dsimp only <;> omega
theorem sm_next (d : Nat) (hd : d < 300) {v : Int} {n : Nat} {rows : List Row} {i : Nat} (hi : i + 1 ≤ 192) {M : Mem} {fr fr' : List AV} (hs : (keysB (lmS1 d) (smL v n rows (i + 1)) && oldsL (smL v n rows (i + 1)) (lmS1 d)) = true) (hm : memH (lmS1 d) 400 M (smL v n rows (i + 1)))
  (hg : ∃ g, M d = some (.hdr 102 g (i + 1)) ∧ ∀ k, k < i + 1 → g k = [.row (labS i k) n 1, .int .i64 (rwK rows k)]) (hrow : ∀ k, k < i + 1 → M (labS i k) = some (.row 3 0 encI (rwC rows k))) (hf : avRs (lmS1 d) 400 fr fr') :
  Sub [] fr M fr' (smM v n rows (i + 1)) := by
 refine Sub.gen _ (retell_own d (lmS1 d) (smL v n rows (i + 1)) 400 204 102 3 n (i + 1) (rwC rows) (rwK rows) (sgF 400 (i + 1) []) (labS i) (lbF 400 []) hs hm (fun ℓ t g m' hmem => ?_) rfl hg hrow (fun x k hx => ?_) (fun x y k hx hy => ?_) (fun k hk => sgF_lb (a := []) trivial hk) (fun k k' hk hk' h => ?_) (fun k hk y hy => ?_)) (fun d hd => by cases hd) (TellL.by_ (lm := lmS1 d) 400 (fun k y h => famF_lm k y h) hf)
 ·simp only [smL, List.mem_cons, Prod.mk.injEq, List.not_mem_nil, or_false] at hmem
  rcases hmem with ⟨_, h⟩ | ⟨_, h⟩ | ⟨rfl, h⟩ | ⟨_, h⟩
  ·cases h
  ·cases h
  ·injection h with h1 h2 h3
   subst h1; subst h2; subst h3
   exact ⟨rfl, rfl, rfl, fun k _ => rfl⟩
  ·cases h
 ·have h1 := sgF_some (a := []) trivial hx
  have e : lbF 400 [] k = 400 + k := rfl
  refine ⟨h1.1, lm_out fun q hq => ?_, ofL_out (sm_keys (by omega) (by omega))⟩
  unfold lmS1 at hq
  simp only [List.mem_cons, List.not_mem_nil, or_false] at hq
  rcases hq with rfl | rfl | rfl | rfl <;> dsimp only <;> omega
 ·rw [← (sgF_some (a := []) trivial hx).2, (sgF_some (a := []) trivial hy).2]
 ·by_cases e : k < i <;> by_cases e' : k' < i
  ·rw [labS_lt e, labS_lt e'] at h; omega
  ·rw [labS_lt e, labS_ge e'] at h; omega
  ·rw [labS_ge e, labS_lt e'] at h; omega
  ·omega
 ·have hmem := lmFind_mem hy
  unfold lmS1 at hmem
  simp only [List.mem_cons, Prod.mk.injEq, List.not_mem_nil, or_false, LM.old.injEq] at hmem
  by_cases e : k < i
  ·rw [labS_lt e] at hmem; omega
  ·rw [labS_ge e] at hmem; omega
theorem sameOwn (s : LSys) (hs : sysE s = 0) : Spec Tryz.prog 96 [.agg (encSy s)] (Mem.ofL []) (fun u M => u = .agg [.int .i64 s.vars, .row 204 s.rows.length 2] ∧ ∃ lab, SysS M s.vars.toNat s.rows lab ∧ ∀ k, k < s.rows.length → 400 ≤ lab k) := by
 obtain ⟨a1, a2, a3, a4⟩ := sysE_ok hs
 obtain ⟨n, hn⟩ : ∃ n, n = s.vars.toNat := ⟨_, rfl⟩
 rw [← hn]
 refine Spec.intro tt_ok mx_ok [] Tryz.func96 rfl (by decide) ?_
 conv => whnf
 refine boxP rfl ?_
 conv => whnf
 refine WPc.loopM tt_ok mx_ok (fun i : Nat => i ≤ s.rows.length) (fun i => [(12, .int .i64 (i : Int))]) (fun i => smM s.vars n s.rows i) (fun i => s.rows.length - i) 0 (Nat.zero_le _) ?_
 conv => whnf
 refine ⟨?_, ?_⟩
 ·show Sub _ _ _ _ _
  exact sm_ini (auto_) (auto_)
 rintro i hi
 by_cases hlt : i < s.rows.length
 ·refine codeFR ?_
  conv => whnf
  refine tI ?_
  conv => whnf
  refine nI ?_
  rw [tN]
  conv => whnf
  have hw := a2 i hlt
  have hcl := cloneOwn (s.rows.getD i row0) (by omega)
  have hnews : ∀ {M : Mem} {K : AV → Mem → Prop}, freshB [] [(300, .old 7)] M = true → K (.agg [.row 300 (s.rows.getD i row0).coef.length 1, .int .i64 (s.rows.getD i row0).const]) (overM [(300, .row 3 0 encI (s.rows.getD i row0).coef)] M) → Spec Tryz.prog 134 [.agg (encRw (s.rows.getD i row0))] M K := fun {M K} hf hk =>
   Spec.news 400 [(300, .old 7)] [(300, .row 3 0 encI (s.rows.getD i row0).coef)] (.agg [.row 300 (s.rows.getD i row0).coef.length 1, .int .i64 (s.rows.getD i row0).const]) hcl (auto_) (by rw [Bool.and_eq_true]; exact ⟨rfl, hf⟩) (by rintro u M' ⟨rfl, e⟩; refine ⟨⟨?_, trivial⟩, auto_⟩; show blkR _ _ (M' 7) _; rw [e]; rfl) hk
  apply once6
  case k =>
   intro o1 o2 o3 o4 o5 o6
   refine drawCY [0, 6] (by decide +kernel) ?_
   conv => whnf
   repeat' first
    |exact True.intro
    |(refine And.intro ?_ ?_ <;> conv => whnf)
    |(clear o1 o2 o3 o4 o5 o6; omega)
    |(refine hnews rfl ?_; conv => whnf)
    |(refine needI (by clear o1 o2 o3 o4 o5 o6; show (i + 1) * 32 ≤ 140737488355328; omega) ?_; conv => whnf)
    |with_reducible exact o1
    |with_reducible exact o2
    |with_reducible exact o3
    |with_reducible exact o4
    |with_reducible exact o5
    |with_reducible exact o6
    |fail
  all_goals try first
   |exact True.intro
   |exact True
  all_goals
   repeat' ((first|refine nI ?_|refine aI ?_|refine arU trivial (by omega) ?_|refine arB trivial (by omega) ?_|refine dI ?_|refine dR ?_|refine dP ?_|refine boxP rfl ?_|refine pI _ rfl ?_|refine rowSetI _ rfl ?_|refine tI ?_|refine fI ?_|refine cmpI (fun _ => ?_) (fun _ => ?_)) <;> conv => whnf)
   refine ⟨i + 1, ?_, by omega, by dsimp only; omega⟩
   dsimp only
   refine sm_next 21 (by decide) (by omega) rfl (auto_) ⟨_, rfl, fun k hk => ?_⟩ (fun k hk => ?_) (auto_)
   ·unfold labS
    cases hb : Nat.blt k i with
    |true => rfl
    |false =>
     have e : k = i := by
      have : ¬ k < i := fun h => by
       have h2 : Nat.blt k i = true := by simp only [Nat.blt, Nat.ble_eq]; omega
       rw [h2] at hb; cases hb
      omega
     subst e
     have e2 : (s.rows.getD k row0).coef.length = n := by omega
     show [AV.row 300 (s.rows.getD k row0).coef.length 1, AV.int .i64 (s.rows.getD k row0).const] = _
     rw [e2]
     rfl
   ·by_cases e : k < i
    ·rw [labS_lt e]
     have e3 := over_row (L := smL s.vars n s.rows i) (ti := 3) (p := 400) (m := i) (a := []) (c := rwC s.rows) (k := k) trivial e (sm_keys (by show 400 ≤ 400 + k; omega) (by show 400 + k < 9000; omega))
     have e4 : smM s.vars n s.rows i (400 + k) = some (.row 3 0 encI (rwC s.rows k)) := e3
     rw [overM_one]
     repeat rw [Mem.set_ne _ _ (by omega)]
     exact e4
    ·rw [labS_ge e]
     obtain rfl : k = i := by omega
     rfl
 ·obtain rfl : i = s.rows.length := by omega
  refine codeFR ?_
  conv => whnf
  refine fI ?_
  conv => whnf
  refine ⟨rfl, lbF 400 [], ⟨⟨_, rfl, fun k _ => rfl⟩, fun k hk => ?_, fun k k' hk hk' h => Nat.add_left_cancel h, fun k hk => ?_⟩, fun k hk => Nat.le_add_right _ _⟩
  ·have e3 := over_row (L := smL s.vars n s.rows s.rows.length) (ti := 3) (p := 400) (m := s.rows.length) (a := []) (c := rwC s.rows) (k := k) trivial hk (sm_keys (by show 400 ≤ 400 + k; omega) (by show 400 + k < 9000; omega))
   have e4 : smM s.vars n s.rows s.rows.length (400 + k) = some (.row 3 0 encI (rwC s.rows k)) := e3
   show _ = some (Blk.row 3 0 encI (rwC s.rows k))
   rw [← e4]
   exact Mem.set_ne _ _ (by show 400 + k ≠ 2; omega)
  ·show 400 + k ≠ 204
   omega
theorem needW {c : Prop} {u u' : AV} {K : AV → Prop} (h : c) (e : u = u') (hk : forceK u' K) : needK c (forceK u K) := by subst e; exact needI h hk
def sbK (rows : List Row) (v : Nat) (a : Int) (i k : Nat) : Int := if k < i then (subR v a (rows.getD k row0)).const else rwK rows k
def sbC (rows : List Row) (v i k : Nat) : List Int := if k < i then (rows.getD k row0).coef.set v 0 else rwC rows k
theorem sbK_zero (rows : List Row) (v : Nat) (a : Int) : sbK rows v a 0 = rwK rows := by
 funext k
 unfold sbK
 rw [if_neg (by omega)]
theorem sbC_zero (rows : List Row) (v : Nat) : sbC rows v 0 = rwC rows := by
 funext k
 unfold sbC
 rw [if_neg (by omega)]
theorem sbK_at (rows : List Row) (v : Nat) (a : Int) (i : Nat) : sbK rows v a i i = rwK rows i := by
 unfold sbK
 rw [if_neg (by omega)]
theorem sbC_at (rows : List Row) (v i : Nat) : sbC rows v i i = rwC rows i := by
 unfold sbC
 rw [if_neg (by omega)]
theorem sbK_up (rows : List Row) (v : Nat) (a : Int) (i : Nat) : sbK rows v a (i + 1) i = rwK rows i + (rwC rows i).getD v 0 * a := by
 unfold sbK
 rw [if_pos (by omega)]
 rfl
theorem sbK_ne (rows : List Row) (v : Nat) (a : Int) {i k : Nat} (h : k ≠ i) : sbK rows v a (i + 1) k = sbK rows v a i k := by
 unfold sbK
 by_cases e : k < i
 ·rw [if_pos e, if_pos (by omega)]
 ·rw [if_neg e, if_neg (by omega)]
theorem sbC_up (rows : List Row) (v i k : Nat) : sbC rows v (i + 1) k = if k = i then (sbC rows v i i).set v 0 else sbC rows v i k := by
 by_cases e : k = i
 ·subst e
  rw [if_pos rfl, sbC_at]
  unfold sbC
  rw [if_pos (by omega)]
  rfl
 ·rw [if_neg e]
  unfold sbC
  by_cases e : k < i
  ·rw [if_pos e, if_pos (by omega)]
  ·rw [if_neg e, if_neg (by omega)]
def fbL (w : Int) (n m : Nat) (K : Nat → Int) (a : List (Nat × Nat)) : List (Nat × Blk) :=
 [(6, .box 56 [.int .i64 0, .nilsl]), (9, .box 56 [.int .i64 w, .row 204 m 2]), (204, .hdr 102 (fun k => [.row (lbF 400 a k) n 1, .int .i64 (K k)]) m)]
def fbM (w : Int) (n m : Nat) (K : Nat → Int) (C : Nat → List Int) (a : List (Nat × Nat)) : Mem := overM (fbL w n m K a) (rowsN 3 (sgF 400 m a) C)
def lmB : LMap := [(6, .old 6), (9, .old 9), (204, .old 204)]
def focS (m : Nat) (a : List (Nat × Nat)) : Prop := wfA 400 m a ∧ ∀ q ∈ a, 300 ≤ q.1
theorem focS0 (m : Nat) : focS m [] := ⟨trivial, fun q hq => by cases hq⟩
theorem focS1 {m i : Nat} (h : i < m) : focS m [(301, i)] := ⟨⟨by omega, h, (fun q hq => by cases hq), trivial⟩, fun q hq => by
 rcases List.mem_cons.1 hq with rfl | hq
 ·exact (by decide : 300 ≤ 301)
 ·cases hq⟩
theorem focS.key {m x k : Nat} {a : List (Nat × Nat)} (h : focS m a) (hx : sgF 400 m a x = some k) : 300 ≤ x := by
 rcases sgF_key hx with h1 | ⟨q, h1, h2⟩
 ·omega
 ·rw [← h2]; exact h.2 q h1
theorem focS.big {m : Nat} {a : List (Nat × Nat)} (h : focS m a) (k : Nat) : 300 ≤ lbF 400 a k := by
 rcases lbF_in (k := k) h.1 with h1 | ⟨q, h1, h2, _⟩
 ·omega
 ·rw [← h2]; exact h.2 q h1
theorem fb_keys {w : Int} {n m : Nat} {K : Nat → Int} {a : List (Nat × Nat)} {x : Nat} (h : 300 ≤ x) : ∀ q ∈ fbL w n m K a, q.1 ≠ x := by
 intro q hq
 unfold fbL at hq
 simp only [List.mem_cons, List.not_mem_nil, or_false] at hq
 rcases hq with rfl | rfl | rfl <;> dsimp only <;> omega
theorem fb_row {w : Int} {n m : Nat} {K : Nat → Int} {C : Nat → List Int} {a : List (Nat × Nat)} (ha : focS m a) {k : Nat} (hk : k < m) : fbM w n m K C a (lbF 400 a k) = some (.row 3 0 encI (C k)) :=
 over_row ha.1 hk (fb_keys (ha.big k))
theorem fb_sub {D : List Nat} {M : Mem} {fr fr' : List AV} {w : Int} {n m : Nat} {K : Nat → Int} {C : Nat → List Int} {a : List (Nat × Nat)} (lmF : LMap) (lab : Nat → Nat) (ha : focS m a) (hm : memH lmB 400 M (fbL w n m K a))
  (hg : ∃ g, M 204 = some (.hdr 102 g m) ∧ ∀ k, k < m → g k = [.row (lab k) n 1, .int .i64 (K k)]) (hrow : ∀ k, k < m → M (lab k) = some (.row 3 0 encI (C k))) (hlab : ∀ k k', k < m → k' < m → lab k = lab k' → k = k') (hfar : ∀ k, k < m → 300 ≤ lab k)
  (hD : D = []) (hlF : ∀ k y, lmFind lmF k = some y → famF lmB (fun x => (sgF 400 m a x).map lab) k = some y) (hf : avRs lmF 400 fr fr') : Sub D fr M fr' (fbM w n m K C a) := by
 subst hD
 refine Sub.gen _ (retell_own 204 lmB (fbL w n m K a) 400 204 102 3 n m C K (sgF 400 m a) lab (lbF 400 a) rfl hm (fun ℓ t g m' hmem => ?_) rfl hg hrow (fun x k hx => ?_) (fun x y k hx hy => ?_) (fun k hk => sgF_lb ha.1 hk) hlab (fun k hk y hy => ?_)) (fun d hd => by cases hd) (TellL.by_ 400 hlF hf)
 ·simp only [fbL, List.mem_cons, Prod.mk.injEq, List.not_mem_nil, or_false] at hmem
  rcases hmem with ⟨_, h⟩ | ⟨_, h⟩ | ⟨rfl, h⟩
  ·cases h
  ·cases h
  ·injection h with h1 h2 h3
   subst h1; subst h2; subst h3
   exact ⟨rfl, rfl, rfl, fun k _ => rfl⟩
 ·have h1 := sgF_some ha.1 hx
  have h2 := ha.key hx
  refine ⟨h1.1, lm_out fun q hq => ?_, ofL_out (fb_keys h2)⟩
  unfold lmB at hq
  simp only [List.mem_cons, List.not_mem_nil, or_false] at hq
  rcases hq with rfl | rfl | rfl <;> dsimp only <;> omega
 ·rw [← (sgF_some ha.1 hx).2, (sgF_some ha.1 hy).2]
 ·exfalso
  have hmem := lmFind_mem hy
  have := hfar k hk
  unfold lmB at hmem
  simp only [List.mem_cons, Prod.mk.injEq, List.not_mem_nil, or_false, LM.old.injEq] at hmem
  omega
theorem fb_setH {w : Int} {n m : Nat} {K K' : Nat → Int} {C : Nat → List Int} {a : List (Nat × Nat)} {g : Nat → List AV} (hg : ∀ k, g k = [.row (lbF 400 a k) n 1, .int .i64 (K' k)]) : (fbM w n m K C a).set 204 (.hdr 102 g m) = fbM w n m K' C a := by
 have e : g = fun k => [.row (lbF 400 a k) n 1, .int .i64 (K' k)] := funext hg
 subst e
 funext x
 by_cases h : x = 204
 ·subst h; rfl
 ·rw [Mem.set_ne _ _ h]
  unfold fbM overM
  have : ∀ K : Nat → Int, Mem.ofL (fbL w n m K a) x = if x = 6 then some (.box 56 [.int .i64 0, .nilsl]) else if x = 9 then some (.box 56 [.int .i64 w, .row 204 m 2]) else none := by
   intro K
   by_cases h6 : x = 6
   ·subst h6; rfl
   ·rw [if_neg h6]
    by_cases h9 : x = 9
    ·subst h9; rfl
    ·rw [if_neg h9]
     refine ofL_out fun q hq => ?_
     unfold fbL at hq
     simp only [List.mem_cons, List.not_mem_nil, or_false] at hq
     rcases hq with rfl | rfl | rfl <;> dsimp only <;> omega
  rw [this K, this K']
theorem codeFT {P : Program} {tt : TT} {D : List Nat} {c : Code} {fr : List AV} {M M' : Mem} {Q : APost} (hs : Sub D fr M fr M') (h : codeK P tt D c fr M' Q) : codeF P tt D c fr M Q := codeFI hs h
def syH (n : Nat) (s : LSys) : Blk := .hdr 102 (fun k => [.row (lbF 400 [] k) n 1, .int .i64 (rwK s.rows k)]) s.rows.length
theorem Spec.callSys {f : FuncId} {args : List AV} {M : Mem} {K : AV → Mem → Prop} {s : LSys} {n : Nat} (hc : Spec Tryz.prog f args (Mem.ofL []) (fun u M => u = .agg [.int .i64 s.vars, .row 204 s.rows.length 2] ∧ ∃ lab, SysS M n s.rows lab ∧ ∀ k, k < s.rows.length → 400 ≤ lab k))
  (ha : TellL (fun _ => none) args args) (hM : ∀ ℓ, (ℓ = 204 ∨ 400 ≤ ℓ) → M ℓ = none) (hk : K (.agg [.int .i64 s.vars, .row 204 s.rows.length 2]) (overN (overM [(204, syH n s)] (rowsN 3 (sgF 400 s.rows.length []) (rwC s.rows))) M)) : Spec Tryz.prog f args M K := by
 refine Spec.callG (fun _ => none) (Mem.ofL []) ⟨fun x B' h => (by cases h), fun x y h => (by cases h), fun a b ℓ h => (by cases h)⟩ ha hc ?_
 rintro u M' ⟨rfl, lab, hS, hb⟩
 refine ⟨famF [(204, .old 204)] (fun x => (sgF 400 s.rows.length [] x).map lab), overM [(204, syH n s)] (rowsN 3 (sgF 400 s.rows.length []) (rwC s.rows)), .agg [.int .i64 s.vars, .row 204 s.rows.length 2], ?_, fun x ℓ h => (by cases h), fun ℓ y h => .inr (hM ℓ ?_), TellA.by_ (lm := [(204, .old 204)]) 400 (fun k y h => famF_lm k y h) (auto_), hk⟩
 ·refine retell_own 204 [(204, .old 204)] [(204, syH n s)] 400 204 102 3 n s.rows.length (rwC s.rows) (rwK s.rows) (sgF 400 s.rows.length []) lab (lbF 400 []) rfl ⟨trivial, trivial⟩ (fun ℓ t g m' hmem => ?_) rfl hS.hdr hS.row (fun x k hx => ?_) (fun x y k hx hy => ?_) (fun k hk => sgF_lb (a := []) trivial hk) hS.inj (fun k hk y hy => ?_)
  ·rw [List.mem_singleton, Prod.mk.injEq] at hmem
   obtain ⟨rfl, h⟩ := hmem
   unfold syH at h
   injection h with h1 h2 h3
   subst h1; subst h2; subst h3
   exact ⟨rfl, rfl, rfl, fun k _ => rfl⟩
  ·have h1 := sgF_some (a := []) trivial hx
   have e : lbF 400 [] k = 400 + k := rfl
   refine ⟨h1.1, lm_out fun q hq => ?_, ofL_out fun q hq => ?_⟩
   ·rw [List.mem_singleton] at hq
    subst hq
    dsimp only; omega
   ·rw [List.mem_singleton] at hq
    subst hq
    dsimp only; omega
  ·rw [← (sgF_some (a := []) trivial hx).2, (sgF_some (a := []) trivial hy).2]
  ·exfalso
   have hmem := lmFind_mem hy
   have := hb k hk
   simp only [List.mem_cons, Prod.mk.injEq, List.not_mem_nil, or_false, LM.old.injEq] at hmem
   omega
 ·unfold famF at h
  cases hl : lmFind [(204, .old 204)] ℓ with
  |some z =>
   have hmem := lmFind_mem hl
   simp only [List.mem_cons, Prod.mk.injEq, List.not_mem_nil, or_false] at hmem
   exact .inl hmem.1
  |none =>
   rw [hl] at h
   dsimp only at h
   cases hs : sgF 400 s.rows.length [] ℓ with
   |none => rw [hs] at h; cases h
   |some k =>
    right
    rcases sgF_key hs with h1 | ⟨q, h1, _⟩
    ·exact h1
    ·cases h1
theorem subS_len (s : LSys) (v : Nat) (a : Int) : (subS s v a).rows.length = s.rows.length := by simp [subS]
theorem subS_get {s : LSys} {v : Nat} {a : Int} {k : Nat} (h : k < s.rows.length) : (subS s v a).rows.getD k row0 = subR v a (s.rows.getD k row0) := by
 rw [getD_elem row0 (by rw [subS_len]; exact h), getD_elem row0 h]
 simp [subS]
theorem sys_done {M : Mem} {w : Int} {n : Nat} {s : LSys} {v : Nat} {a : Int} (hM : ∀ x, x ≠ 6 → M x = fbM w n s.rows.length (sbK s.rows v a s.rows.length) (sbC s.rows v s.rows.length) [] x) : SysS M n (subS s v a).rows (lbF 400 []) := by
 refine ⟨⟨fun k => [.row (lbF 400 [] k) n 1, .int .i64 (sbK s.rows v a s.rows.length k)], ?_, fun k hk => ?_⟩, fun k hk => ?_, fun k k' _ _ h => Nat.add_left_cancel h, fun k hk => ?_⟩
 ·rw [hM 204 (by decide), subS_len]
  rfl
 ·rw [subS_len] at hk
  rw [subS_get hk]
  show [AV.row (lbF 400 [] k) n 1, AV.int .i64 (sbK s.rows v a s.rows.length k)] = _
  unfold sbK
  rw [if_pos hk]
 ·rw [subS_len] at hk
  rw [subS_get hk, hM _ (by show 400 + k ≠ 6; omega), fb_row (focS0 _) hk]
  unfold sbC
  rw [if_pos hk]
  rfl
 ·show 400 + k ≠ 204
  omega
def sbR (s : LSys) (v a : Int) (u : AV) (M : Mem) : Prop := (subE s v a = 0 ∧ u = .tup [.agg [.int .i64 s.vars, .row 204 s.rows.length 2], .int .i64 0] ∧ ∃ lab, SysS M s.vars.toNat (subS s v.toNat a).rows lab) ∨
 (subE s v a ≠ 0 ∧ u = .tup [.agg [.int .i64 0, .nilsl], .int .i64 (subE s v a)])
theorem subE_1 {s : LSys} {v a : Int} (h : sysE s ≠ 0) : subE s v a = sysE s := by unfold subE; rw [if_pos h]
theorem subE_2 {s : LSys} {v a : Int} (h : sysE s = 0) (h2 : v < 0 ∨ s.vars ≤ v ∨ a < 0 ∨ 1048576 < a) : subE s v a = 1 := by unfold subE; rw [if_neg (by omega), if_pos h2]
theorem subE_4 {s : LSys} {v a : Int} (h : sysE s = 0) (h2 : ¬ (v < 0 ∨ s.vars ≤ v ∨ a < 0 ∨ 1048576 < a)) (h3 : ¬ ∀ j, j < s.rows.length → numB (subR v.toNat a (s.rows.getD j row0)).const) : subE s v a = 4 := by unfold subE; rw [if_neg (by omega), if_neg h2, if_pos h3]
theorem subE_0 {s : LSys} {v a : Int} (h : sysE s = 0) (h2 : ¬ (v < 0 ∨ s.vars ≤ v ∨ a < 0 ∨ 1048576 < a)) (h3 : ∀ j, j < s.rows.length → numB (subR v.toNat a (s.rows.getD j row0)).const) : subE s v a = 0 := by unfold subE; rw [if_neg (by omega), if_neg h2, if_neg (fun x => x h3)]
theorem SubstituteO (s : LSys) (v a : Int) (hs : okS s) : Spec Tryz.prog 53 [.agg (encSy s), .int .i64 v, .int .i64 a] (Mem.ofL []) (sbR s v a) := by
 refine Spec.intro tt_ok mx_ok [] Tryz.func53 rfl (by decide) ?_
 conv => whnf
 refine boxP rfl ?_
 conv => whnf
 (refine oP (ValidateF s hs) ?_; conv => whnf)
 refine cmpI ?_ ?_ <;> (intro h; conv => whnf)
 ·exact .inr ⟨by rw [subE_1 h]; exact h, by rw [subE_1 h]; rfl⟩
 have h0 : sysE s = 0 := Classical.not_not.1 h
 obtain ⟨a1, a2, a3, a4⟩ := sysE_ok h0
 have no1 : (v < 0 ∨ s.vars ≤ v ∨ a < 0 ∨ 1048576 < a) → ∀ M, sbR s v a (.tup [.agg [.int .i64 0, .nilsl], .int .i64 1]) M := fun h2 M => .inr ⟨by rw [subE_2 h0 h2]; decide, by rw [subE_2 h0 h2]⟩
 refine cmpI ?_ ?_ <;> (intro h1; conv => whnf)
 ·exact no1 (.inl h1) _
 refine cmpI ?_ ?_ <;> (intro h2; conv => whnf)
 ·exact no1 (.inr (.inl (by omega))) _
 refine cmpI ?_ ?_ <;> (intro h3; conv => whnf)
 ·exact no1 (.inr (.inr (.inl h3))) _
 refine cmpI ?_ ?_ <;> (intro h4; conv => whnf)
 ·exact no1 (.inr (.inr (.inr (by omega)))) _
 obtain ⟨n, hn⟩ : ∃ n, n = s.vars.toNat := ⟨_, rfl⟩
 have hso := sameOwn s h0
 rw [← hn] at hso
 refine Spec.callSys hso (TellL.by_ (lm := []) 400 (fun k y h => by cases h) (auto_)) (fun ℓ hℓ => ?_) ?_
 ·rw [Mem.set_ne _ _ (by omega)]
  rfl
 conv => whnf
 refine WPc.loopM tt_ok mx_ok (fun i : Nat => i ≤ s.rows.length ∧ ∀ j, j < i → numB (subR v.toNat a (s.rows.getD j row0)).const) (fun i => [(40, .int .i64 (i : Int))]) (fun i => fbM s.vars n s.rows.length (sbK s.rows v.toNat a i) (sbC s.rows v.toNat i) []) (fun i => s.rows.length - i) 0 ⟨Nat.zero_le _, fun j hj => absurd hj (Nat.not_lt_zero _)⟩ ?_
 conv => whnf
 refine ⟨?_, ?_⟩
 ·show Sub _ _ _ _ _
  rw [sbK_zero, sbC_zero]
  refine fb_sub lmB (lbF 400 []) (focS0 _) (auto_) ⟨_, rfl, fun k _ => rfl⟩ (fun k hk => ?_) (fun k k' _ _ h => Nat.add_left_cancel h) (fun k hk => (by show 300 ≤ 400 + k; omega)) rfl (fun k y h => famF_lm k y h) (auto_)
  have e3 := over_row (L := [(204, syH n s)]) (ti := 3) (p := 400) (m := s.rows.length) (a := []) (c := rwC s.rows) (k := k) trivial hk (fun q hq => by
   rw [List.mem_singleton] at hq
   subst hq
   show 204 ≠ 400 + k
   omega)
  rw [Mem.set_ne _ _ (by show 400 + k ≠ 9; omega), Mem.set_ne _ _ (by show 400 + k ≠ 9; omega)]
  unfold overN
  rw [e3]
 rintro i ⟨hi, hc⟩
 by_cases hlt : i < s.rows.length
 ·have f1 := focS1 hlt
  have lr : lbF 400 [(301, i)] i = 301 := by rw [lbF, Nat.beq_refl]
  have hwi := a2 i hlt
  have b1 : numB ((sbC s.rows v.toNat i i).getD v.toNat 0) := by rw [sbC_at]; exact (a4 i hlt).1 v.toNat (by omega)
  have b2 := mul_36 b1 (show 0 ≤ a ∧ a ≤ 1048576 by omega)
  have b3 : numB (sbK s.rows v.toNat a i i) := by rw [sbK_at]; exact (a4 i hlt).2
  have b4 := b3
  unfold numB at b4
  refine codeFT (fb_sub (a := [(301, i)]) lmB (lbF 400 []) f1 (auto_) ⟨_, rfl, fun k _ => rfl⟩ (fun k hk => fb_row (focS0 _) hk) (fun k k' _ _ h => Nat.add_left_cancel h) (fun k hk => (by show 300 ≤ 400 + k; omega)) rfl (fun k y h => famF_lm k y h) (auto_)) ?_
  conv => whnf
  refine tI ?_
  conv => whnf
  refine nI ?_
  rw [tN]
  conv => whnf
  refine drawL 16 (by decide +kernel) ?_
  conv => whnf
  refine needW (u' := .rel 301 v.toNat 0) (by omega) (by rw [lr]) ?_
  conv => whnf
  refine aI ?_
  conv => whnf
  refine aI ?_
  conv => whnf
  refine stopL_mem (fb_setH (K' := sbK s.rows v.toNat a (i + 1)) (fun k => ?_)) ?_
  ·by_cases e : k = i
   ·subst e
    rw [sbK_up, ← sbK_at s.rows v.toNat a k, ← sbC_at s.rows v.toNat k, Nat.beq_refl]
    rfl
   ·have hb : Nat.beq k i = false := beq_f e
    rw [hb, sbK_ne _ _ _ e]
  conv => whnf
  refine needW (u' := .rel 301 v.toNat 0) (by omega) (by rw [lr]) ?_
  conv => whnf
  refine rowSetI _ rfl ?_
  conv => whnf
  have hk1 : sbK s.rows v.toNat a (i + 1) i = (subR v.toNat a (s.rows.getD i row0)).const := if_pos (by omega)
  refine dC (withinF (sbK s.rows v.toNat a (i + 1) i)) (fun _ => ?_) (fun _ => ?_) <;> (conv => whnf)
  ·rename_i hw
   rw [hk1] at hw
   repeat' ((first|refine nI ?_|refine aI ?_|refine arU trivial (by omega) ?_|refine arB trivial (by omega) ?_|refine dI ?_|refine dR ?_|refine dP ?_|refine boxP rfl ?_|refine pI _ rfl ?_|refine rowSetI _ rfl ?_|refine tI ?_|refine fI ?_|refine cmpI (fun _ => ?_) (fun _ => ?_)) <;> conv => whnf)
   refine ⟨i + 1, ?_, ⟨by omega, fun j hj => ?_⟩, by dsimp only; omega⟩
   ·dsimp only
    refine fb_sub (a := []) lmB (lbF 400 [(301, i)]) (focS0 _) (auto_) ⟨_, rfl, fun k _ => rfl⟩ (fun k hk => ?_) (fun k k' h h' e => lbF_inj f1.1 h h' e) (fun k hk => f1.big k) rfl (fun k y h => famF_lm k y h) (auto_)
    rw [sbC_up]
    by_cases e : k = i
    ·subst e
     rw [lr, Mem.set_eq, if_pos rfl]
    ·rw [if_neg e, Mem.set_ne _ _ (fun h => e (lbF_inj f1.1 hk hlt (by rw [h, lr])))]
     exact fb_row f1 hk
   ·by_cases e : j = i
    ·subst e; exact hw
    ·exact hc j (by omega)
  ·rename_i hw
   rw [hk1] at hw
   have e4 : subE s v a = 4 := subE_4 h0 (by omega) (fun hh => hw (hh i hlt))
   exact .inr ⟨by rw [e4]; decide, by rw [e4]; rfl⟩
 ·obtain rfl : i = s.rows.length := by omega
  refine codeFR ?_
  conv => whnf
  refine fI ?_
  conv => whnf
  refine .inl ⟨subE_0 h0 (by omega) hc, rfl, lbF 400 [], ?_⟩
  rw [← hn]
  exact sys_done (w := s.vars) fun x hx => Mem.set_ne _ _ hx
theorem SubstituteF (s : LSys) (v a : Int) (hs : okS s) : PSpec Tryz.prog 53 [.agg (encSy s), .int .i64 v, .int .i64 a] (fun u => u = .tup [.agg (if subE s v a = 0 then encSy (subS s v.toNat a) else [.int .i64 0, .nilsl]), .int .i64 (subE s v a)]) :=
 PSpec.of_own (SubstituteO s v a hs) fun u M' hR => by
  rcases hR with ⟨h0, rfl, lab, hS⟩ | ⟨h0, rfl⟩
  ·refine ⟨_, rfl, fun S F ρ w v' hM hv => ?_⟩
   rw [if_pos h0, h0]
   exact sys_own hS hM hv
  ·refine ⟨_, rfl, fun S F ρ w v' hM hv => ?_⟩
   rw [if_neg h0]
   exact (persN_ok (ρ := ρ) 5 rfl hv).mono (lendS_le (F := F) hM)
end Go.Proofs.YtfoplfpbjajljaaGreatDoor
