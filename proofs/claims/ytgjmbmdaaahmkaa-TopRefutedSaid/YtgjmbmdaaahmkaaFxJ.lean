
/-
  Contracts: what is read of a tableau, by the program.
-/
import Derived.Test.YtgjmbmdaaahmkaaFxI
set_option linter.unusedVariables false
set_option linter.unusedSimpArgs false
namespace Go.Proofs.Ytgjmbmdaaahmkaa
set_option maxRecDepth 100000
set_option maxHeartbeats 32000000

def encLn (l : List Int) : List AV := [.sl 0 encI l]
/-- a tableau, told for good -/
def encTb (n : Nat) (t : Tab) (bad : Int) : List AV := [.int .i64 n, .int .i64 t.den, .sl 0 encI t.bas, .sl 0 encI t.fre, .sl [] encLn t.cel, .int .i64 bad]
section
variable {S F : Store} {ρ : Env} {M : Mem} {w : World}
theorem lendS_at {ℓ : Nat} {B : Blk} {b : Lab} (h1 : M ℓ = some B) (h2 : ρ ℓ = some b) (h3 : lentB B = true) (h4 : B.live b) : lendS S ρ M w b.blk = w.heap[b.blk]? := by
  unfold lendS
  rw [if_pos ⟨ℓ, B, b, h1, h2, h3, h4, rfl⟩]
theorem lend_row (hM : RepM S F ρ M w) {ℓ n sz : Nat} {t : TypeId} {l : List Int} (hl : M ℓ = some (.row t (0 : Int) encI l)) {v : Value} (h : RV S ρ v (.row ℓ n sz)) : RP (lendS S ρ M w) v (.sl 0 encI l) := by
  have := borA_ok hM h
  have e : borA M (.row ℓ n sz) = .sl 0 encI l := by simp only [borA, hl]
  rw [e] at this
  exact this.sl_inv
theorem lend_hdr (hM : RepM S F ρ M w) {ℓ n sz : Nat} {t ti : TypeId} {g : Nat → List AV} {c : List (List Int)} {q : Nat} {lab : Nat → Nat} (hl : M ℓ = some (.hdr t g c.length)) (hg : ∀ k, k < c.length → g k = [.row (lab k) q 1])
    (hrow : ∀ k, k < c.length → M (lab k) = some (.row ti (0 : Int) encI (c.getD k []))) {v : Value} (h : RV S ρ v (.row ℓ n sz)) : RP (lendS S ρ M w) v (.sl [] encLn c) := by
  obtain ⟨b, hb, hn, hs, hz, rfl⟩ := h.row_inv
  obtain ⟨b', hb', l, hlm, hgv, hlen, hszs, hcase⟩ := hM.blk _ _ hl
  rw [hb] at hb'; cases hb'
  rcases hcase with ⟨hnil, rfl, hcap⟩ | ⟨hnil, hcap, vs, hheap, hsize, hcell, hS, hF⟩
  · have hc0 : c = [] := List.eq_nil_of_length_eq_zero (by simpa using hlm.symm)
    subst hc0
    have hl0 : b.len = 0 := by simpa using hlen
    have e : b.hdr = .slice none ([] : List (List Int)).length 0 := by simp [Lab.hdr, hnil, hl0, hcap]
    rw [e]
    exact .sl [] encLn [] none 0 0 (fun _ _ => undef) (by simp) (by simp) (by simp) (by simp) (by simp) (by simp)
  · have hlc : c.length = l.length := by omega
    have e : b.hdr = .slice (some ⟨b.blk, 0, none⟩) c.length b.cap := by simp [Lab.hdr, hnil, hlen, hlc]
    rw [e]
    have hone : ∀ i, i < c.length → ∃ x, l.getD i [] = [x] ∧ RV S ρ x (.row (lab i) q 1) := by
      intro i hi
      have h1 := hgv i hi
      rw [hg i hi] at h1
      obtain ⟨x, xs, e1, h2, h3⟩ := h1.cons_inv
      rw [h3.nil_inv] at e1
      exact ⟨x, e1, h2⟩
    have hbs : ∀ i, i < c.length → b.sz = 1 := by
      intro i hi
      obtain ⟨x, hx, _⟩ := hone i hi
      have := (hszs _ (List.getElem_mem (show i < l.length by omega))).1
      have e2 : l.getD i [] = l[i]'(by omega) := by rw [gD, gL (by omega)]; rfl
      rw [← e2, hx] at this
      simpa [encVs] using this.symm
    have hl1 : lendS S ρ M w b.blk = some (.cells vs t (0, 0)) := by rw [lendS_at hl hb rfl hnil]; exact hheap
    have hval : ∀ i, i < c.length → ∃ x, vs[i]? = some x ∧ RV S ρ x (.row (lab i) q 1) := by
      intro i hi
      obtain ⟨x, hx, hr⟩ := hone i hi
      have e2 : l[i]? = some [x] := by
        rw [← hx, gD, gL (by omega)]; rfl
      obtain ⟨v, hv, hv2⟩ := hcell i [x] 0 (.val x) e2 rfl
      cases hv2
      rw [hbs i hi, Nat.mul_one, Nat.add_zero] at hv
      exact ⟨x, hv, hr⟩
    refine .sl [] encLn c (some ⟨b.blk, 0, none⟩) b.cap 1 (fun i _ => vs.getD i undef) (by omega) (fun a _ => rfl) (fun a _ => rfl) (fun i j hi hj => ⟨_, rfl, ?_⟩) (by simp) (fun i a j u hi hu => ?_)
    · obtain ⟨x, hx, _⟩ := hval i hi
      have hj0 : j = 0 := by omega
      subst hj0
      rw [Addr.add_mk]
      simp only [Store.cell, hl1]
      simp [hx]
    · have hil := (List.getElem?_eq_some_iff.1 hi).1
      obtain ⟨x, hx, hr⟩ := hval i hil
      have hj0 : j = 0 := by
        have := (List.getElem?_eq_some_iff.1 hu).1
        simp [encLn] at this; omega
      subst hj0
      simp [encLn] at hu
      subst hu
      have ha : c.getD i [] = a := by rw [gD, hi]; rfl
      have := lend_row hM (hrow i hil) hr
      rw [ha] at this
      simp [hx]
      exact this
/-- the tableau, lent -/
theorem lend_tab (hM : RepM S F ρ M w) {n m : Nat} {t : Tab} {bad : Int} {lab : Nat → Nat} (hT : MatS M n m t bad lab) (hm : t.cel.length = m) {v : Value} (h : RV S ρ v (.ptr 7001 0)) : RP (lendS S ρ M w) v (.pd (encTb n t bad)) := by
  obtain ⟨b, hb, rfl⟩ := h.ptr_inv
  obtain ⟨b', hb', vs, hheap, hvs, hS, hF⟩ := hM.blk _ _ hT.box
  rw [hb] at hb'; cases hb'
  have hl1 : lendS S ρ M w b.blk = some (.cells vs 77 (0, 0)) := by rw [lendS_at hT.box hb rfl trivial]; exact hheap
  have hlen := hvs.1
  simp only [Array.length_toList, List.length_cons, List.length_nil] at hlen
  have hle := lendS_le (S := S) (F := F) hM
  refine .pd _ _ (fun j => vs.getD j undef) (fun j hj => ?_) (fun j u hu => ?_)
  · rw [Addr.add_mk, Nat.zero_add]
    have : j < vs.size := by simp [encTb] at hj; omega
    simp only [Store.cell, hl1]
    simp [this]
  · have get : ∀ {u0 : AV}, [AV.int .i64 n, .int .i64 t.den, .row 7002 t.bas.length 1, .row 7003 t.fre.length 1, .row 7004 m 1, .int .i64 bad][j]? = some u0 → RV S ρ (vs.getD j undef) u0 := by
      intro u0 h0
      obtain ⟨v, hv, hr⟩ := hvs.2 j u0 h0
      have hv' : vs[j]? = some v := by simpa using hv
      simpa [hv'] using hr
    obtain ⟨g, hg1, hg2⟩ := hT.hdr
    match j, hu with
    | 0, hu => simp [encTb] at hu; subst hu; rw [(get rfl).int_inv]; exact .int _ _
    | 1, hu => simp [encTb] at hu; subst hu; rw [(get rfl).int_inv]; exact .int _ _
    | 2, hu => simp [encTb] at hu; subst hu; exact lend_row hM hT.bas (get rfl)
    | 3, hu => simp [encTb] at hu; subst hu; exact lend_row hM hT.fre (get rfl)
    | 4, hu =>
      simp [encTb] at hu; subst hu
      subst hm
      exact lend_hdr hM hg1 hg2 (fun k hk => hT.row k hk) (get rfl)
    | 5, hu => simp [encTb] at hu; subst hu; rw [(get rfl).int_inv]; exact .int _ _
    | j + 6, hu => simp [encTb] at hu
end
theorem lvK_b (t : Tab) (k : Nat) : -1 ≤ lvK t k ∧ lvK t k < k := lvK_rng t k
theorem leavingF (n m : Nat) (t : Tab) (bad : Int) (ht : TabS n m t) (hm : m ≤ 100000) (hn : n ≤ 100000) : PSpec Try.prog 40 [.pd (encTb n t bad)] (fun u => u = .int .i64 (lvK t m)) := by
  have hb := ht.bl
  have hc := ht.cm
  refine PSpec.intro tt_ok mx_ok Try.func40 rfl (by decide) ?_; (conv => whnf)
  refine WPc.loopF tt_ok mx_ok (fun k : Nat => k ≤ m) (fun k => [(10, .int .i64 (k : Int)), (3, .int .i64 (lvK t k))]) (fun _ => []) (fun k => m - k) 0 (Nat.zero_le _) ?_; conv => whnf
  refine ⟨(Sub.id_ 400 rfl auto_ auto_), ?_⟩
  rintro k hk
  have hl := lvK_b t k
  have hup : lvK t (k + 1) = if cl t k 0 < 0 ∧ (lvK t k < 0 ∨ t.bas.getD k 0 < t.bas.getD (lvK t k).toNat 0) then (k : Int) else lvK t k := rfl
  conv => whnf
  refine cmpI (fun h1 => ?_) (fun h1 => ?_) <;> conv => whnf
  · have hlt : k < m := by omega
    have hcn := ht.cn k hlt
    first | refine drawP (by decide +kernel) ?_ | refine drawI (by decide +kernel) ?_
    conv => whnf
    refine needI (by omega) ?_
    rw [Int.toNat_natCast]
    conv => whnf
    refine needI (by omega) ?_
    conv => whnf
    refine cmpI (fun h2 => ?_) (fun h2 => ?_) <;> conv => whnf
    · have e2 : cl t k 0 < 0 := h2
      refine cmpI (fun h3 => ?_) (fun h3 => ?_) <;> conv => whnf
      · rw [if_pos ⟨e2, .inl h3⟩] at hup
        repeat' ((first|refine nI ?_|refine aI ?_|refine arU trivial (by omega) ?_|refine arB trivial (by omega) ?_|refine dI ?_|refine dR ?_|refine dP ?_|refine boxP rfl ?_|refine pI _ rfl ?_|refine rowSetI _ rfl ?_|refine tI ?_|refine fI ?_|refine cmpI (fun _ => ?_) (fun _ => ?_)) <;> conv => whnf)
        exact ⟨k + 1, by dsimp only; rw [hup]; exact (Sub.id_ 400 rfl auto_ auto_), by omega, by dsimp only; omega⟩
      · refine needI (by omega) ?_
        rw [Int.toNat_natCast]
        conv => whnf
        refine needI (by omega) ?_
        conv => whnf
        refine cmpI (fun h4 => ?_) (fun h4 => ?_) <;> conv => whnf
        · rw [if_pos ⟨e2, .inr h4⟩] at hup
          repeat' ((first|refine nI ?_|refine aI ?_|refine arU trivial (by omega) ?_|refine arB trivial (by omega) ?_|refine dI ?_|refine dR ?_|refine dP ?_|refine boxP rfl ?_|refine pI _ rfl ?_|refine rowSetI _ rfl ?_|refine tI ?_|refine fI ?_|refine cmpI (fun _ => ?_) (fun _ => ?_)) <;> conv => whnf)
          exact ⟨k + 1, by dsimp only; rw [hup]; exact (Sub.id_ 400 rfl auto_ auto_), by omega, by dsimp only; omega⟩
        · rw [if_neg (fun h => h.2.elim h3 h4)] at hup
          repeat' ((first|refine nI ?_|refine aI ?_|refine arU trivial (by omega) ?_|refine arB trivial (by omega) ?_|refine dI ?_|refine dR ?_|refine dP ?_|refine boxP rfl ?_|refine pI _ rfl ?_|refine rowSetI _ rfl ?_|refine tI ?_|refine fI ?_|refine cmpI (fun _ => ?_) (fun _ => ?_)) <;> conv => whnf)
          exact ⟨k + 1, by dsimp only; rw [hup]; exact (Sub.id_ 400 rfl auto_ auto_), by omega, by dsimp only; omega⟩
    · have e2 : ¬ cl t k 0 < 0 := h2
      rw [if_neg (fun h => e2 h.1)] at hup
      repeat' ((first|refine nI ?_|refine aI ?_|refine arU trivial (by omega) ?_|refine arB trivial (by omega) ?_|refine dI ?_|refine dR ?_|refine dP ?_|refine boxP rfl ?_|refine pI _ rfl ?_|refine rowSetI _ rfl ?_|refine tI ?_|refine fI ?_|refine cmpI (fun _ => ?_) (fun _ => ?_)) <;> conv => whnf)
      exact ⟨k + 1, by dsimp only; rw [hup]; exact (Sub.id_ 400 rfl auto_ auto_), by omega, by dsimp only; omega⟩
  · obtain rfl : k = m := by omega
    exact ⟨rfl, rfl⟩
end Go.Proofs.Ytgjmbmdaaahmkaa
