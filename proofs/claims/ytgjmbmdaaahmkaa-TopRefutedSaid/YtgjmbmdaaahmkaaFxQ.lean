
/-
  Contracts: rows that divide sharpened; the point, taken; a tableau that becomes known for good.
-/
import Derived.Test.YtgjmbmdaaahmkaaFxP
set_option linter.unusedVariables false
set_option linter.unusedSimpArgs false
namespace Go.Proofs.Ytgjmbmdaaahmkaa
set_option maxRecDepth 100000
set_option maxHeartbeats 32000000

/-! ### blocks of some labels become known for good -/
def onlyM (A : Nat → Bool) (M : Mem) : Mem := fun x => match A x with
  | true => M x
  | false => match M x with
    | some _ => some .dead
    | none => none
def deadA (A : Nat → Bool) (M : Mem) : Mem := fun x => match A x with
  | true => (match M x with
    | some _ => some .dead
    | none => none)
  | false => M x
section
variable {P : Program} {S F : Store} {ρ : Env} {M : Mem} {w : World}
theorem onlyM_live {A : Nat → Bool} {x : Nat} {B : Blk} {b : Lab} (h : onlyM A M x = some B) (hl : B.live b) : A x = true ∧ M x = some B := by
  unfold onlyM at h
  cases hA : A x with
  | true => rw [hA] at h; exact ⟨rfl, h⟩
  | false =>
    rw [hA] at h
    dsimp only at h
    cases hM : M x with
    | none => rw [hM] at h; cases h
    | some C => rw [hM] at h; cases h; exact hl.elim
theorem deadA_live {A : Nat → Bool} {x : Nat} {B : Blk} {b : Lab} (h : deadA A M x = some B) (hl : B.live b) : A x = false ∧ M x = some B := by
  unfold deadA at h
  cases hA : A x with
  | false => rw [hA] at h; exact ⟨rfl, h⟩
  | true =>
    rw [hA] at h
    dsimp only at h
    cases hM : M x with
    | none => rw [hM] at h; cases h
    | some C => rw [hM] at h; cases h; exact hl.elim
theorem RepM.only (hM : RepM S F ρ M w) (A : Nat → Bool) : RepM S F ρ (onlyM A M) w := by
  refine ⟨hM.sw, hM.fw, hM.sf, fun ℓ b hb => ?_, fun ℓ B hB => ?_, fun x y B C b c h1 h2 h3 h4 h5 h6 hne => ?_, hM.gl⟩
  · have := hM.dom ℓ b hb
    unfold onlyM
    cases A ℓ with
    | true => exact this
    | false =>
      cases h : M ℓ with
      | none => exact absurd h this
      | some B => simp
  · unfold onlyM at hB
    cases hA : A ℓ with
    | true => rw [hA] at hB; exact hM.blk ℓ B hB
    | false =>
      rw [hA] at hB
      dsimp only at hB
      cases h : M ℓ with
      | none => rw [h] at hB; cases hB
      | some C =>
        rw [h] at hB
        cases hB
        obtain ⟨b, hb, _⟩ := hM.blk ℓ C h
        exact ⟨b, hb, trivial⟩
  · exact hM.inj x y B C b c (onlyM_live h1 h5).2 (onlyM_live h2 h6).2 h3 h4 h5 h6 hne
theorem RepM.leakA (hM : RepM S F ρ M w) (A : Nat → Bool) : RepM (lendS S ρ (onlyM A M) w) F ρ (deadA A M) w := by
  have hO := hM.only A
  have hle := lendS_le (S := S) (F := F) hO
  refine ⟨lendS_in hO, hM.fw, fun k => ?_, fun ℓ b hb => ?_, fun ℓ B hB => ?_, fun x y B C b c h1 h2 h3 h4 h5 h6 hne => ?_, hM.gl.mono hle⟩
  · by_cases hr : rowAt ρ (onlyM A M) k
    · exact .inr (rowAt_off hO hr).2.1
    · have e : lendS S ρ (onlyM A M) w k = S k := by unfold lendS; rw [if_neg hr]
      rw [e]
      exact hM.sf k
  · have := hM.dom ℓ b hb
    unfold deadA
    cases A ℓ with
    | false => exact this
    | true =>
      cases h : M ℓ with
      | none => exact absurd h this
      | some B => simp
  · by_cases hl : ∃ b, B.live b
    · obtain ⟨b0, hl⟩ := hl
      obtain ⟨hA, hMB⟩ := deadA_live hB hl
      obtain ⟨b, hb, hr⟩ := hM.blk ℓ B hMB
      refine ⟨b, hb, hr.keep hle (Env.le_refl _) fun hlb => ⟨rfl, ?_⟩⟩
      have hn : ¬ rowAt ρ (onlyM A M) b.blk := by
        rintro ⟨y, C, c, g1, g2, _, g4, g5⟩
        obtain ⟨hA2, hMC⟩ := onlyM_live g1 g4
        exact hM.inj y ℓ C B c b hMC hMB g2 hb g4 hlb (fun e => by subst e; rw [hA] at hA2; cases hA2) g5
      unfold lendS
      rw [if_neg hn]
    · unfold deadA at hB
      cases hA : A ℓ with
      | false =>
        rw [hA] at hB
        obtain ⟨b, hb, hr⟩ := hM.blk ℓ B hB
        exact ⟨b, hb, hr.keep hle (Env.le_refl _) fun h => absurd ⟨_, h⟩ hl⟩
      | true =>
        rw [hA] at hB
        dsimp only at hB
        cases h : M ℓ with
        | none => rw [h] at hB; cases hB
        | some C =>
          rw [h] at hB
          cases hB
          obtain ⟨b, hb, _⟩ := hM.blk ℓ C h
          exact ⟨b, hb, trivial⟩
  · exact hM.inj x y B C b c (deadA_live h1 h5).2 (deadA_live h2 h6).2 h3 h4 h5 h6 hne
/-- some blocks become known for good before a call -/
theorem Spec.leakA {f : FuncId} {args args' : List AV} {R : AV → Mem → Prop} (A : Nat → Bool) (h : Spec P f args' (deadA A M) R)
    (hconv : ∀ S F ρ w vs, RepM S F ρ M w → RVs S ρ vs args → RVs (lendS S ρ (onlyM A M) w) ρ vs args') : Spec P f args M R := by
  rw [Spec_iff] at h ⊢
  refine ⟨h.1, fun S F ρ vs w hM hv => ?_⟩
  refine (h.2 _ F ρ vs w (hM.leakA A) (hconv S F ρ w vs hM hv)).mono ?_
  rintro e w' ⟨v, u, M', S', ρ', h1, h2, h3, h4⟩
  exact ⟨v, u, M', S', ρ', h1, h2, Store.le_trans (lendS_le (S := S) (F := F) (hM.only A)) h3, h4⟩
theorem PSpec.weaken {f : FuncId} {args args' : List AV} {R : AV → Prop} (h : PSpec P f args' R) (hw : ∀ S vs, RPs S vs args → RPs S vs args') : PSpec P f args R := by
  rw [PSpec_iff] at *
  exact ⟨h.1, fun S F vs w h1 h2 h3 h4 hv => h.2 S F vs w h1 h2 h3 h4 (hw S vs hv)⟩
theorem rp_empty {α : Type} (d : α) (enc : α → List AV) (S : Store) (ad : Addr) : RP S (.slice (some ad) 0 0) (.sl d enc []) :=
  .sl d enc [] (some ad) 0 0 (fun _ _ => undef) (by simp) (by simp) (by simp) (by simp) (by simp) (by simp)
end
theorem MatS.only {M : Mem} {n m : Nat} {t : Tab} {bad : Int} {lab : Nat → Nat} (h : MatS M n m t bad lab) {A : Nat → Bool} (h1 : A 7001 = true) (h2 : A 7002 = true) (h3 : A 7003 = true) (h4 : A 7004 = true) (h5 : ∀ k, k < m → A (lab k) = true) : MatS (onlyM A M) n m t bad lab := by
  have e : ∀ {x}, A x = true → onlyM A M x = M x := fun {x} hx => by unfold onlyM; rw [hx]
  refine ⟨(e h1).trans h.box, (e h2).trans h.bas, (e h3).trans h.fre, ?_, fun k hk => (e (h5 k hk)).trans (h.row k hk), h.inj, h.far⟩
  obtain ⟨g, g1, g2⟩ := h.hdr
  exact ⟨g, (e h4).trans g1, g2⟩
theorem tab_leak {M : Mem} {n m : Nat} {t : Tab} {bad : Int} {lab : Nat → Nat} {A : Nat → Bool} (hT : MatS (onlyM A M) n m t bad lab) (hm : t.cel.length = m) : ∀ S F ρ w vs, RepM S F ρ M w → RVs S ρ vs [.ptr 7001 0] → RVs (lendS S ρ (onlyM A M) w) ρ vs [.pd (encTb n t bad)] :=
  fun S F ρ w vs hM hv => (tab_conv1 hT hm S F ρ w vs (hM.only A) hv).rv ρ

/-! ### the point of no coordinates is not nil -/
theorem pointZ (m : Nat) (t : Tab) (bad : Int) (ht : TabS 0 m t) (hm : m ≤ 100000) (hbs : ∀ i, i < m → 0 ≤ t.bas.getD i 0) : PSpec Try.prog 32 [.pd (encTb 0 t bad)] (fun u => ∃ ad : Addr, u = .val (.slice (some ad) 0 0)) := by
  have hb := ht.bl
  refine PSpec.introZ 3 tt_ok mx_ok Try.func32 rfl (by decide) ?_
  conv => whnf
  refine needI ⟨rfl, rfl⟩ ?_
  intro ad
  conv => whnf
  refine WPc.loopF tt_ok mx_ok (fun k : Nat => k ≤ m) (fun k => [(16, .int .i64 (k : Int))]) (fun k => [(9998, .row 3 0 encI [])]) (fun k => m - k) 0 (Nat.zero_le _) ?_; conv => whnf
  refine ⟨(Sub.id_ 400 rfl auto_ auto_), ?_⟩
  rintro k hk
  conv => whnf
  refine cmpI (fun h1 => ?_) (fun h1 => ?_) <;> conv => whnf
  · have hlt : k < m := by omega
    have hb0 := hbs k hlt
    refine needI (by omega) ?_
    rw [Int.toNat_natCast]
    conv => whnf
    refine cmpF (by omega) ?_
    conv => whnf
    refine arI trivial (by omega) ?_
    conv => whnf
    exact ⟨k + 1, (Sub.id_ 400 rfl auto_ auto_), by omega, by dsimp only; omega⟩
  · exact ⟨⟨ad, rfl⟩, rfl⟩
theorem takeF (n : Nat) (rows : List Row) (nodes : List Nod) (li le : Int) (g : Bool) (x : List Int) (hx : x.length ≤ 1000) :
    Spec Try.prog 31 [.ptr 6001 0, .sl 0 encI x] (Mem.ofL (brL n rows nodes li le g))
      (fun u M => u = .tup [] ∧ ((pntB x ∧ M = Mem.ofL (brN n rows nodes li le (.sl 0 encI x) g)) ∨ (¬ pntB x ∧ M = Mem.ofL (brN n rows nodes li le .nilsl true)))) := by
  refine Spec.renorm 400 (R := fun u M => u = .tup [] ∧ ((pntB x ∧ memR (lmO 6002 6003) 400 M (brN n rows nodes li le (.sl 0 encI x) g)) ∨ (¬ pntB x ∧ memR (lmO 6002 6003) 400 M (brN n rows nodes li le .nilsl true)))) ?_ ?_
  case refine_2 =>
    rintro u M' ⟨rfl, ⟨h0, hM⟩ | ⟨h0, hM⟩⟩
    · exact ⟨_, _, .tup [], rfl, hM, trivial, rfl, .inl ⟨h0, rfl⟩⟩
    · exact ⟨_, _, .tup [], rfl, hM, trivial, rfl, .inr ⟨h0, rfl⟩⟩
  refine Spec.intro tt_ok mx_ok (brL n rows nodes li le g) Try.func31 rfl (by decide) ?_
  conv => whnf
  refine dC (onPointF x (by omega)) (fun _ => ?_) (fun _ => ?_) <;> (conv => whnf)
  · rename_i h
    exact ⟨rfl, .inl ⟨h, auto_⟩⟩
  · rename_i h
    exact ⟨rfl, .inr ⟨h, auto_⟩⟩
theorem takeZ (n : Nat) (rows : List Row) (nodes : List Nod) (li le : Int) (g : Bool) (ad : Addr) :
    Spec Try.prog 31 [.ptr 6001 0, .val (.slice (some ad) 0 0)] (Mem.ofL (brL n rows nodes li le g))
      (fun u M => u = .tup [] ∧ M = Mem.ofL (brN n rows nodes li le (.val (.slice (some ad) 0 0)) g)) := by
  have hO : PSpec Try.prog 13 [.val (.slice (some ad) 0 0)] (fun u => u = .bool (decide (pntB []))) := PSpec.weaken (onPointF [] (by simp)) (fun S vs hv => by
    obtain ⟨v, vs', rfl, h1, h2⟩ := hv.cons_inv
    have e2 : vs' = [] := List.eq_nil_of_length_eq_zero h2.1
    subst e2
    cases h1
    exact RPs.cons (rp_empty 0 encI S ad) (RPs.nil _))
  refine Spec.renorm 400 (R := fun u M => u = .tup [] ∧ memR (lmO 6002 6003) 400 M (brN n rows nodes li le (.val (.slice (some ad) 0 0)) g)) ?_ ?_
  case refine_2 =>
    rintro u M' ⟨rfl, hM⟩
    exact ⟨_, _, .tup [], rfl, hM, trivial, rfl, rfl⟩
  refine Spec.intro tt_ok mx_ok (brL n rows nodes li le g) Try.func31 rfl (by decide) ?_
  conv => whnf
  refine dC (hO) (fun _ => ?_) (fun _ => ?_) <;> (conv => whnf)
  · exact ⟨rfl, auto_⟩
  · rename_i h
    exact absurd (fun j hj => absurd hj (Nat.not_lt_zero _)) h

/-! ### sharpening -/
theorem divZ_K (r : Row) : ∀ k, divZ r k = divK r k
  | 0 => rfl
  | k + 1 => by rw [divZ, divK, divZ_K r k]
def shL (n : Nat) (b : Br) : List (Nat × Blk) :=
  [(6001, .box 53 (bxC n 1000 b.rows.length 1001 b.nodes.length b.lines b.left .nilsl b.gave)), (6002, .dead), (6003, .dead), (1000, .row 42 row0 encRw b.rows), (1001, .row 63 nod0 encNo b.nodes)]
def shQ (n : Nat) (r : Br × Bool) (u : AV) (M : Mem) : Prop := u = .bool r.2 ∧ M = Mem.ofL (brN n r.1.rows r.1.nodes r.1.lines r.1.left .nilsl r.1.gave)
theorem addB_t {n i : Nat} {b : Br} {d : Der} (h : dvB n b.rows d ∧ (b.lines : Int) ≠ 400) : addB n i b d = ({ b with rows := b.rows ++ [dvR n b.rows d], lines := b.lines + 1, nodes := nodA b.nodes i d }, true) := by
  unfold addB
  rw [if_pos ⟨h.1, by have := h.2; omega⟩]
  rfl
theorem addB_f {n i : Nat} {b : Br} {d : Der} (h : ¬ (dvB n b.rows d ∧ (b.lines : Int) ≠ 400)) : addB n i b d = (b.give, false) := by
  unfold addB
  rw [if_neg (fun hh => h ⟨hh.1, by have := hh.2; omega⟩)]
theorem shK_stop {n : Nat} {b : Br} {k : Nat} (h : (shK n b k).2 = false) : ∀ m, k ≤ m → shK n b m = shK n b k := by
  intro m hm
  induction m with
  | zero => rw [Nat.le_zero.1 hm]
  | succ m ih =>
    by_cases e : k = m + 1
    · rw [e]
    · have := ih (by omega)
      rw [shK, this, if_pos h]
theorem sharpenF (n : Nat) (b : Br) (h : BrIn n 0 b) (hl : b.rows.length ≤ 10000) :
    Spec Try.prog 25 [.ptr 6001 0, .int .i64 0, .int .i64 0] (Mem.ofL (brL n b.rows b.nodes b.lines b.left b.gave)) (shQ n (shK n b b.rows.length)) := by
  have hlen := h.len
  refine Spec.renorm 400 (R := fun u M => u = .bool (shK n b b.rows.length).2 ∧ ((memR (lmO 1000 1001) 400 M (brN n (shK n b b.rows.length).1.rows (shK n b b.rows.length).1.nodes (shK n b b.rows.length).1.lines (shK n b b.rows.length).1.left .nilsl (shK n b b.rows.length).1.gave)) ∨
    (memR (lmO 1002 1003) 400 M (brN n (shK n b b.rows.length).1.rows (shK n b b.rows.length).1.nodes (shK n b b.rows.length).1.lines (shK n b b.rows.length).1.left .nilsl (shK n b b.rows.length).1.gave)))) ?_ ?_
  case refine_2 =>
    rintro u M' ⟨rfl, hM | hM⟩
    · exact ⟨_, _, .bool (shK n b b.rows.length).2, rfl, hM, rfl, rfl, rfl⟩
    · exact ⟨_, _, .bool (shK n b b.rows.length).2, rfl, hM, rfl, rfl, rfl⟩
  refine Spec.intro tt_ok mx_ok (brL n b.rows b.nodes b.lines b.left b.gave) Try.func25 rfl (by decide) ?_
  conv => whnf
  refine WPc.loopF tt_ok mx_ok (fun x : Nat × Br => x.1 ≤ b.rows.length ∧ shK n b x.1 = (x.2, true)) (fun x => [(8, .int .i64 (x.1 : Int))]) (fun x => shL n x.2) (fun x => b.rows.length - x.1) (0, b) ⟨Nat.zero_le _, rfl⟩ ?_; conv => whnf
  refine ⟨Sub.by_ [(6001, .old 6001), (6002, .old 6002), (6003, .old 6003), (1000, .old 6002), (1001, .old 6003)] _ 400 rfl (auto_) (auto_), ?_⟩
  rintro ⟨k, c⟩ ⟨hk, hc⟩
  dsimp only at hk hc
  obtain ⟨ha, hs⟩ := shK_ok (n := n) (b := b) (by omega) (by rw [h.new]; rfl) h.gv k hk
  rw [hc] at ha hs
  dsimp only at ha hs
  have hrl := (lnR_rdy h.rdy (hs.resolve_left (fun h => by cases h.1)).2.2).2
  obtain ⟨m, em⟩ := ha.rows
  have hrdy := ha.rdy h.rdy
  have hlin := ha.lin
  have hlmx := ha.lmx h.lmx
  have hnl := ha.len
  have h0 : (b.nodes.getD 0 nod0).lines.length = 0 := by rw [h.new]; rfl
  conv => whnf
  refine cmpI (fun h1 => ?_) (fun h1 => ?_) <;> conv => whnf
  · have hlt : k < b.rows.length := by omega
    have hcl : b.rows.length ≤ c.rows.length := by rw [em, List.length_append]; omega
    have er : c.rows.getD k row0 = b.rows.getD k row0 := by rw [em, getD_app row0 hlt]
    have hr := hrdy k (by omega)
    refine needI (by dsimp only; omega) ?_
    rw [Int.toNat_natCast]
    conv => whnf
    (refine oP (divisorF (c.rows.getD k row0) hr.2 (by have := h.n96; omega)) ?_; conv => whnf)
    have hD : divZ (c.rows.getD k row0) (c.rows.getD k row0).coef.length = divR (b.rows.getD k row0) := by rw [divZ_K, er]; rfl
    have hDb := divZ_b hr.2.1 (c.rows.getD k row0).coef.length (Nat.le_refl _)
    rw [hD] at hDb
    have hup : shK n b (k + 1) = if 1 < divR (b.rows.getD k row0) ∧ (b.rows.getD k row0).const.tmod (divR (b.rows.getD k row0)) ≠ 0 then addB n 0 c ⟨[(k : Int)], [1], divR (b.rows.getD k row0)⟩ else (c, true) := by
      rw [shK, hc, if_neg (by simp)]
    rw [hD]
    refine cmpI (fun h2 => ?_) (fun h2 => ?_) <;> conv => whnf
    · refine needI (by dsimp only; omega) ?_
      rw [Int.toNat_natCast]
      conv => whnf
      refine needI (by omega) ?_
      conv => whnf
      rw [er]
      refine cmpI (fun h3 => ?_) (fun h3 => ?_) <;> conv => whnf
      · rw [if_pos ⟨h2, h3⟩] at hup
        refine Spec.handB 47 rfl ?_
        refine Spec.handB 48 rfl ?_
        refine Spec.call [(6001, .old 6001), (6002, .old 1000), (6003, .old 1001)] (brL n c.rows c.nodes c.lines c.left c.gave) 400 rfl (auto_) (auto_)
          (addF n 0 c.rows c.nodes c.lines c.left c.gave ⟨[(k : Int)], [1], divR (b.rows.getD k row0)⟩ h.n96 hrdy (by omega) (by omega) (by omega) ⟨by simp, by simp⟩ (by omega)) ?_
        rintro u M' (⟨hd, rfl, rfl⟩ | ⟨hd, rfl, rfl⟩)
        · rw [addB_t hd] at hup
          refine ⟨[(6001, .old 6001), (1000, .old 6002), (1001, .old 6003), (1002, .old 6004), (1003, .old 6005)], [(6001, .box 53 (bxC n 1002 (c.rows ++ [dvR n c.rows ⟨[(k : Int)], [1], divR (b.rows.getD k row0)⟩]).length 1003 (nodA c.nodes 0 ⟨[(k : Int)], [1], divR (b.rows.getD k row0)⟩).length (c.lines + 1) c.left .nilsl c.gave)), (1000, .dead), (1001, .dead), (1002, .row 42 row0 encRw (c.rows ++ [dvR n c.rows ⟨[(k : Int)], [1], divR (b.rows.getD k row0)⟩])), (1003, .row 63 nod0 encNo (nodA c.nodes 0 ⟨[(k : Int)], [1], divR (b.rows.getD k row0)⟩))], .bool true, rfl, (auto_), rfl, ?_⟩
          conv => whnf
          repeat' ((first|refine nI ?_|refine aI ?_|refine arU trivial (by omega) ?_|refine arB trivial (by omega) ?_|refine dI ?_|refine dR ?_|refine dP ?_|refine boxP rfl ?_|refine pI _ rfl ?_|refine rowSetI _ rfl ?_|refine tI ?_|refine fI ?_|refine cmpI (fun _ => ?_) (fun _ => ?_)) <;> conv => whnf)
          exact ⟨(k + 1, { c with rows := c.rows ++ [dvR n c.rows ⟨[(k : Int)], [1], divR (b.rows.getD k row0)⟩], lines := c.lines + 1, nodes := nodA c.nodes 0 ⟨[(k : Int)], [1], divR (b.rows.getD k row0)⟩ }),
            Sub.by_ [(6001, .old 6001), (6002, .old 6002), (6003, .old 6003), (1000, .old 1002), (1001, .old 1003)] _ 400 rfl (auto_) (auto_), ⟨by dsimp only; omega, hup⟩, by dsimp only; omega⟩
        · rw [addB_f hd] at hup
          refine ⟨[(6001, .old 6001), (1000, .old 6002), (1001, .old 6003), (1002, .old 6004), (1003, .old 6005)], [(6001, .box 53 (bxC n 1002 c.rows.length 1003 c.nodes.length c.lines c.left .nilsl true)), (1000, .dead), (1001, .dead), (1002, .row 42 row0 encRw c.rows), (1003, .row 63 nod0 encNo c.nodes)], .bool false, rfl, (auto_), rfl, ?_⟩
          conv => whnf
          have hst := shK_stop (n := n) (b := b) (k := k + 1) (by rw [hup]) b.rows.length (by omega)
          rw [hst, hup]
          exact ⟨rfl, .inr (auto_)⟩
      · rw [if_neg (fun hh => h3 hh.2)] at hup
        repeat' ((first|refine nI ?_|refine aI ?_|refine arU trivial (by omega) ?_|refine arB trivial (by omega) ?_|refine dI ?_|refine dR ?_|refine dP ?_|refine boxP rfl ?_|refine pI _ rfl ?_|refine rowSetI _ rfl ?_|refine tI ?_|refine fI ?_|refine cmpI (fun _ => ?_) (fun _ => ?_)) <;> conv => whnf)
        exact ⟨(k + 1, c), (Sub.id_ 400 rfl auto_ auto_), ⟨by dsimp only; omega, hup⟩, by dsimp only; omega⟩
    · rw [if_neg (fun hh => h2 hh.1)] at hup
      repeat' ((first|refine nI ?_|refine aI ?_|refine arU trivial (by omega) ?_|refine arB trivial (by omega) ?_|refine dI ?_|refine dR ?_|refine dP ?_|refine boxP rfl ?_|refine pI _ rfl ?_|refine rowSetI _ rfl ?_|refine tI ?_|refine fI ?_|refine cmpI (fun _ => ?_) (fun _ => ?_)) <;> conv => whnf)
      exact ⟨(k + 1, c), (Sub.id_ 400 rfl auto_ auto_), ⟨by dsimp only; omega, hup⟩, by dsimp only; omega⟩
  · obtain rfl : k = b.rows.length := by omega
    rw [hc]
    exact ⟨rfl, .inl (auto_)⟩
end Go.Proofs.Ytgjmbmdaaahmkaa
