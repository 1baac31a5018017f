
/-
  The law TopRefuted, by the program.
-/
import Derived.Test.YtgjmbmdaaahmkaaFxV
import Derived.Test.YtgjmbmdaaahmkaaFxG
set_option linter.unusedVariables false
set_option linter.unusedSimpArgs false
namespace Go.Proofs.Ytgjmbmdaaahmkaa
set_option maxRecDepth 100000
set_option maxHeartbeats 32000000

/-! ### the lines that the solver gives are headed rightly -/
def Qd (l : List Nod) : Prop := ∀ x ∈ l, ∀ d ∈ x.lines, hedB d
theorem Qd.set {l : List Nod} (h : Qd l) {i : Nat} {x : Nod} (hx : ∀ d ∈ x.lines, hedB d) : Qd (l.set i x) := by
  intro y hy
  rcases List.mem_or_eq_of_mem_set hy with h1 | rfl
  · exact h y h1
  · exact hx
theorem Qd.at_ {l : List Nod} (h : Qd l) (i : Nat) : ∀ d ∈ (l.getD i nod0).lines, hedB d := by
  by_cases hi : i < l.length
  · exact h _ (memD nod0 hi)
  · intro d hd
    rw [List.getD_eq_getElem?_getD, List.getElem?_eq_none (by omega)] at hd
    cases hd
theorem Qd.new {l : List Nod} (h : Qd l) : Qd (l ++ [nodN]) := by
  intro x hx
  rcases List.mem_append.1 hx with h1 | h1
  · exact h x h1
  · rw [List.mem_singleton] at h1
    subst h1
    intro d hd
    cases hd
theorem addB_q {n i : Nat} {b : Br} {d : Der} (h : Qd b.nodes) : Qd (addB n i b d).1.nodes := by
  unfold addB
  split
  · rename_i hc
    refine h.set fun d' hd' => ?_
    dsimp only at hd'
    rcases List.mem_append.1 hd' with h1 | h1
    · exact h.at_ i d' h1
    · rw [List.mem_singleton] at h1
      subst h1
      exact hc.1.1
  · exact h
theorem shK_q {n : Nat} {b : Br} (h : Qd b.nodes) : ∀ k, Qd (shK n b k).1.nodes
  | 0 => h
  | k + 1 => by
    rw [shK]
    split
    · exact shK_q h k
    · split
      · exact addB_q (shK_q h k)
      · exact shK_q h k
theorem brB_q {n : Nat} : ∀ (k : Nat) {b : Br} {i : Nat}, Qd b.nodes → Qd (brB n k b i).nodes
  | 0, b, i, h => h
  | k + 1, b, i, h => by
    have hl : ∀ {c : Br} {v a : Int}, Qd c.nodes → Qd (lefB n i v a c).nodes := fun {c v a} hc => (Qd.new hc).set (hc.new.at_ i)
    have hr : ∀ {c : Br} {v a : Int} {l : List Row}, Qd c.nodes → Qd (rigB n i v a c l).nodes := fun {c v a l} hc => (Qd.new hc).set (hc.new.at_ i)
    have hs : ∀ {c : Br} {v a : Int}, Qd c.nodes → Qd (spB n k c i v a).nodes := by
      intro c v a hc
      unfold spB
      split
      · exact hc
      split
      · exact hc
      dsimp only
      have h1 : Qd ((brB n k (lefB n i v a c) c.nodes.length).cut c.rows.length).nodes := brB_q k (hl hc)
      split
      · exact h1
      split
      · exact h1
      · exact brB_q k (hr h1)
    have ht : ∀ {c : Br}, Qd c.nodes → Qd (tlB n k c i).nodes := by
      intro c hc
      unfold tlB
      split
      · exact hc
      split
      · exact hc
      split
      · exact hc
      · split
        · split
          · exact hc
          · exact addB_q hc
        · split
          · split
            · exact hc
            · exact hc
          · exact hs hc
    have hq : Qd (if i = 0 then shK n b b.rows.length else (b, true)).1.nodes := by
      split
      · exact shK_q h _
      · exact h
    rw [brB_tl]
    generalize (if i = 0 then shK n b b.rows.length else (b, true)) = s at hq ⊢
    split
    · exact hq
    · exact ht hq
theorem sol_okN {s : LSys} (h : sysE s = 0) {nodes : Int} (hn : 0 < nodes) (hp : (solB s nodes).point = none) (hg : (solB s nodes).gave = false) : okN (solB s nodes).nodes := by
  have hr := sol_refute h hn hp hg
  have hq : Qd (solB s nodes).nodes := brB_q 401 (fun x hx d hd => by
    rw [List.mem_singleton] at hx
    subst hx
    cases hd)
  refine ⟨by have := hr.2.1.1; omega, fun i hi => ⟨by have := linN_at _ hi; have := hr.2.1.2.2.2; omega, fun j hj => ?_⟩⟩
  have := hq _ (memD nod0 hi) _ (memD der0 hj)
  obtain ⟨h1, h2, _⟩ := this
  unfold okD
  omega

/-! ### the law -/
theorem neg_no {s : LSys} {i : Nat} (hi : i < s.rows.length) {x : List Int} (h : satB (appS s (negR (s.rows.getD i row0))) x) : False := by
  obtain ⟨_, h2, _, h4⟩ := h
  have a := h4 i (by show i < (s.rows ++ [_]).length; rw [List.length_append]; omega)
  have b := h4 s.rows.length (by show s.rows.length < (s.rows ++ [_]).length; rw [List.length_append, List.length_singleton]; omega)
  have e1 : (appS s (negR (s.rows.getD i row0))).rows.getD i row0 = s.rows.getD i row0 := getD_app row0 hi
  have e2 : (appS s (negR (s.rows.getD i row0))).rows.getD s.rows.length row0 = negR (s.rows.getD i row0) := getD_at
  rw [e1] at a
  rw [e2] at b
  generalize s.rows.getD i row0 = r at a b
  have key : ∀ k, k ≤ r.coef.length → lftK (r.coef.map fun c => -c) x k = - lftK r.coef x k := by
    intro k
    induction k with
    | zero => intro _; rw [lftK, lftK]; omega
    | succ k ih =>
      intro hk
      have e : (r.coef.map fun c => -c).getD k 0 = - r.coef.getD k 0 := by
        rw [getD_elem 0 (by rw [List.length_map]; omega), List.getElem_map, getD_elem 0 (by omega)]
      rw [lftK, lftK, ih (by omega), e, Int.neg_mul]
      omega
  have e3 := key r.coef.length (Nat.le_refl _)
  unfold valR at a b
  unfold negR at b
  dsimp only at b
  rw [List.length_map, e3] at b
  omega
def s1 : LSys := ⟨1, [⟨[-1], 1⟩]⟩
theorem s1_ok : sysE s1 = 0 := by decide +kernel
theorem s1_point : (solB s1 300).point.isSome = true := by decide +kernel
theorem solverF : PSpec Try.prog 4 [] (fun u => u = .bool true) := by
  refine PSpec.intro tt_ok mx_ok Try.func4 rfl (by decide) ?_; (conv => whnf)
  refine bldI row0 encRw [⟨[-1], 1⟩] rfl ?_
  conv => whnf
  refine Spec.handB 6 rfl ?_
  refine Spec.of_pure (n := 5) (SolveF s1 300 (okS_valid s1_ok)) rfl ?_
  rintro u (⟨g1, rfl⟩ | ⟨_, g1, rfl⟩ | ⟨_, g0, ⟨x, pc, g1, g2, rfl⟩ | ⟨g1, g2, rfl⟩ | ⟨g1, g2, rfl⟩⟩)
  · exact absurd s1_ok g1
  · omega
  · rcases PtA_cases g2 with ⟨hp, rfl⟩ | ⟨y, hp, hx, rfl⟩ | ⟨ad, hp, rfl⟩
    · cases hp
    · conv => whnf
      exact ⟨rfl, rfl⟩
    · conv => whnf
      exact ⟨rfl, rfl⟩
  · have := s1_point; rw [g1] at this; cases this
  · have := s1_point; rw [g1] at this; cases this
theorem sat_empty {s : LSys} (hs : okS s) (h : satB s []) (ad : Addr) : PSpec Try.prog 6 [.agg (encSy s), .val (.slice (some ad) 0 0)] (fun u => u = .bool true) :=
  PSpec.weaken ((SatisfiesF s [] hs (by simp)).mono fun u hu => by rw [hu, decide_eq_true h]) fun S vs hv => by
    obtain ⟨v, vs', rfl, h1, h2⟩ := hv.cons_inv
    obtain ⟨v2, vs2, rfl, h3, h4⟩ := h2.cons_inv
    have e2 : vs2 = [] := List.eq_nil_of_length_eq_zero h4.1
    subst e2
    cases h3
    exact RPs.cons h1 (RPs.cons (rp_empty 0 encI S ad) (RPs.nil _))
theorem lawRefA (s : LSys) (nodes : List Nod) (x : List Int) (hs : okS s) (ho : okN nodes) (hx : x.length ≤ 140737488355328) (h1 : ¬ 12 < (s.rows.length : Int)) (h2 : ¬ 6 < s.vars) (h3 : ¬ 450 < (nodes.length : Int)) (h4 : ¬ 200 < (x.length : Int)) (hr : refB s nodes) (hi : ¬ satB s x) :
    PSpec Try.prog 3 [.agg (encSy s), .agg [.sl nod0 encNo nodes], .sl 0 encI x] (fun u => u = .bool true) := by
  refine PSpec.intro tt_ok mx_ok Try.func3 rfl (by decide) ?_; (conv => whnf)
  refine boxP rfl ?_
  conv => whnf
  refine boxP rfl ?_
  conv => whnf
  refine cmpF h1 ?_
  conv => whnf
  refine cmpF h2 ?_
  conv => whnf
  refine cmpF h3 ?_
  conv => whnf
  refine cmpF h4 ?_
  conv => whnf
  (refine oP ((CheckRefutationF s nodes hs ho).mono fun u hu => show u = .bool true by (rw [hu, decide_eq_true hr])) ?_; conv => whnf)
  (refine oP ((SatisfiesF s x hs hx).mono fun u hu => show u = .bool false by (rw [hu, decide_eq_false hi])) ?_; conv => whnf)
  refine Spec.of_pure (n := 5) (SolveF s 60 hs) rfl ?_
  rintro u (⟨g1, rfl⟩ | ⟨_, g1, rfl⟩ | ⟨hz, g0, ⟨x', pc, g1, g2, rfl⟩ | ⟨g1, g2, rfl⟩ | ⟨g1, g2, rfl⟩⟩)
  · exact (g1 hr.1).elim
  · omega
  · exact (ref_sound hr x' (sol_point hz g0 g1)).elim
  · conv => whnf
    refine Spec.of_pure (n := 5) (LeastF s 2 hs (by omega)) rfl ?_
    rintro u (⟨y, hyl, hy, rfl⟩ | ⟨e, rfl⟩)
    · exact (ref_sound hr y hy).elim
    · conv => whnf
      refine cmpF (fun h => h rfl) ?_
      conv => whnf
      refine cmpF (by decide) ?_
      conv => whnf
      refine cmpF (by decide) ?_
      conv => whnf
      by_cases he : e = 0
      · refine cmpT he ?_
        conv => whnf
        refine WPc.loopF tt_ok mx_ok (fun k : Nat => k ≤ s.rows.length) (fun k => [(14, .int .i64 (k : Int)), (9, .top), (74, .top), (81, .top), (87, .top), (97, .top)]) (fun _ => []) (fun k => s.rows.length - k) 0 (Nat.zero_le _) ?_; conv => whnf
        refine ⟨(Sub.id_ 400 rfl auto_ auto_), ?_⟩
        rintro k hk
        conv => whnf
        refine cmpI (fun q1 => ?_) (fun q1 => ?_) <;> conv => whnf
        · refine drawI (by decide +kernel) ?_
          conv => whnf
          refine needI (by omega) ?_
          rw [Int.toNat_natCast]
          conv => whnf
          refine callPI 5 (EntailsF s (s.rows.getD k row0) 60 hs (hs.2 k (by omega))) rfl ⟨_, 0, 1, rfl, fun h => absurd h (by decide)⟩ ?_
          rintro u ⟨kk, e, rfl, hke⟩
          conv => whnf
          refine cmpI (fun q2 => ?_) (fun q2 => ?_) <;> conv => whnf
          · refine cmpI (fun q3 => ?_) (fun q3 => ?_) <;> conv => whnf
            · obtain ⟨y, hy⟩ := hke q2 q3
              exact (neg_no (by omega) hy).elim
            · repeat' ((first|refine nI ?_|refine aI ?_|refine arU trivial (by omega) ?_|refine arB trivial (by omega) ?_|refine dI ?_|refine dR ?_|refine dP ?_|refine boxP rfl ?_|refine pI _ rfl ?_|refine rowSetI _ rfl ?_|refine tI ?_|refine fI ?_|refine cmpI (fun _ => ?_) (fun _ => ?_)) <;> conv => whnf)
              exact ⟨k + 1, (Sub.id_ 400 rfl auto_ auto_), by omega, by dsimp only; omega⟩
          · repeat' ((first|refine nI ?_|refine aI ?_|refine arU trivial (by omega) ?_|refine arB trivial (by omega) ?_|refine dI ?_|refine dR ?_|refine dP ?_|refine boxP rfl ?_|refine pI _ rfl ?_|refine rowSetI _ rfl ?_|refine tI ?_|refine fI ?_|refine cmpI (fun _ => ?_) (fun _ => ?_)) <;> conv => whnf)
            exact ⟨k + 1, (Sub.id_ 400 rfl auto_ auto_), by omega, by dsimp only; omega⟩
        · (refine oP (solverF) ?_; conv => whnf)
          exact ⟨rfl, rfl⟩
      · refine cmpF he ?_
        conv => whnf
        refine WPc.loopF tt_ok mx_ok (fun k : Nat => k ≤ s.rows.length) (fun k => [(14, .int .i64 (k : Int)), (9, .top), (74, .top), (81, .top), (87, .top), (97, .top)]) (fun _ => []) (fun k => s.rows.length - k) 0 (Nat.zero_le _) ?_; conv => whnf
        refine ⟨(Sub.id_ 400 rfl auto_ auto_), ?_⟩
        rintro k hk
        conv => whnf
        refine cmpI (fun q1 => ?_) (fun q1 => ?_) <;> conv => whnf
        · refine drawI (by decide +kernel) ?_
          conv => whnf
          refine needI (by omega) ?_
          rw [Int.toNat_natCast]
          conv => whnf
          refine callPI 5 (EntailsF s (s.rows.getD k row0) 60 hs (hs.2 k (by omega))) rfl ⟨_, 0, 1, rfl, fun h => absurd h (by decide)⟩ ?_
          rintro u ⟨kk, e, rfl, hke⟩
          conv => whnf
          refine cmpI (fun q2 => ?_) (fun q2 => ?_) <;> conv => whnf
          · refine cmpI (fun q3 => ?_) (fun q3 => ?_) <;> conv => whnf
            · obtain ⟨y, hy⟩ := hke q2 q3
              exact (neg_no (by omega) hy).elim
            · repeat' ((first|refine nI ?_|refine aI ?_|refine arU trivial (by omega) ?_|refine arB trivial (by omega) ?_|refine dI ?_|refine dR ?_|refine dP ?_|refine boxP rfl ?_|refine pI _ rfl ?_|refine rowSetI _ rfl ?_|refine tI ?_|refine fI ?_|refine cmpI (fun _ => ?_) (fun _ => ?_)) <;> conv => whnf)
              exact ⟨k + 1, (Sub.id_ 400 rfl auto_ auto_), by omega, by dsimp only; omega⟩
          · repeat' ((first|refine nI ?_|refine aI ?_|refine arU trivial (by omega) ?_|refine arB trivial (by omega) ?_|refine dI ?_|refine dR ?_|refine dP ?_|refine boxP rfl ?_|refine pI _ rfl ?_|refine rowSetI _ rfl ?_|refine tI ?_|refine fI ?_|refine cmpI (fun _ => ?_) (fun _ => ?_)) <;> conv => whnf)
            exact ⟨k + 1, (Sub.id_ 400 rfl auto_ auto_), by omega, by dsimp only; omega⟩
        · (refine oP (solverF) ?_; conv => whnf)
          exact ⟨rfl, rfl⟩
  · have hC : PSpec Try.prog 5 [.agg (encSy s), .agg [.sl nod0 encNo (solB s 60).nodes]] (fun u => u = .bool true) := (CheckRefutationF s _ hs (sol_okN hz g0 g1 g2)).mono fun u hu => by rw [hu, decide_eq_true (sol_refute hz g0 g1 g2)]
    conv => whnf
    refine Spec.of_pure (n := 5) (LeastF s 2 hs (by omega)) rfl ?_
    rintro u (⟨y, hyl, hy, rfl⟩ | ⟨e, rfl⟩)
    · exact (ref_sound hr y hy).elim
    · conv => whnf
      refine cmpF (fun h => h rfl) ?_
      conv => whnf
      refine cmpF (by decide) ?_
      conv => whnf
      refine cmpT rfl ?_
      conv => whnf
      (refine oP (hC) ?_; conv => whnf)
      by_cases he : e = 0
      · refine cmpT he ?_
        conv => whnf
        refine WPc.loopF tt_ok mx_ok (fun k : Nat => k ≤ s.rows.length) (fun k => [(14, .int .i64 (k : Int)), (9, .top), (74, .top), (81, .top), (87, .top), (97, .top)]) (fun _ => []) (fun k => s.rows.length - k) 0 (Nat.zero_le _) ?_; conv => whnf
        refine ⟨(Sub.id_ 400 rfl auto_ auto_), ?_⟩
        rintro k hk
        conv => whnf
        refine cmpI (fun q1 => ?_) (fun q1 => ?_) <;> conv => whnf
        · refine drawI (by decide +kernel) ?_
          conv => whnf
          refine needI (by omega) ?_
          rw [Int.toNat_natCast]
          conv => whnf
          refine callPI 5 (EntailsF s (s.rows.getD k row0) 60 hs (hs.2 k (by omega))) rfl ⟨_, 0, 1, rfl, fun h => absurd h (by decide)⟩ ?_
          rintro u ⟨kk, e, rfl, hke⟩
          conv => whnf
          refine cmpI (fun q2 => ?_) (fun q2 => ?_) <;> conv => whnf
          · refine cmpI (fun q3 => ?_) (fun q3 => ?_) <;> conv => whnf
            · obtain ⟨y, hy⟩ := hke q2 q3
              exact (neg_no (by omega) hy).elim
            · repeat' ((first|refine nI ?_|refine aI ?_|refine arU trivial (by omega) ?_|refine arB trivial (by omega) ?_|refine dI ?_|refine dR ?_|refine dP ?_|refine boxP rfl ?_|refine pI _ rfl ?_|refine rowSetI _ rfl ?_|refine tI ?_|refine fI ?_|refine cmpI (fun _ => ?_) (fun _ => ?_)) <;> conv => whnf)
              exact ⟨k + 1, (Sub.id_ 400 rfl auto_ auto_), by omega, by dsimp only; omega⟩
          · repeat' ((first|refine nI ?_|refine aI ?_|refine arU trivial (by omega) ?_|refine arB trivial (by omega) ?_|refine dI ?_|refine dR ?_|refine dP ?_|refine boxP rfl ?_|refine pI _ rfl ?_|refine rowSetI _ rfl ?_|refine tI ?_|refine fI ?_|refine cmpI (fun _ => ?_) (fun _ => ?_)) <;> conv => whnf)
            exact ⟨k + 1, (Sub.id_ 400 rfl auto_ auto_), by omega, by dsimp only; omega⟩
        · (refine oP (solverF) ?_; conv => whnf)
          exact ⟨rfl, rfl⟩
      · refine cmpF he ?_
        conv => whnf
        refine WPc.loopF tt_ok mx_ok (fun k : Nat => k ≤ s.rows.length) (fun k => [(14, .int .i64 (k : Int)), (9, .top), (74, .top), (81, .top), (87, .top), (97, .top)]) (fun _ => []) (fun k => s.rows.length - k) 0 (Nat.zero_le _) ?_; conv => whnf
        refine ⟨(Sub.id_ 400 rfl auto_ auto_), ?_⟩
        rintro k hk
        conv => whnf
        refine cmpI (fun q1 => ?_) (fun q1 => ?_) <;> conv => whnf
        · refine drawI (by decide +kernel) ?_
          conv => whnf
          refine needI (by omega) ?_
          rw [Int.toNat_natCast]
          conv => whnf
          refine callPI 5 (EntailsF s (s.rows.getD k row0) 60 hs (hs.2 k (by omega))) rfl ⟨_, 0, 1, rfl, fun h => absurd h (by decide)⟩ ?_
          rintro u ⟨kk, e, rfl, hke⟩
          conv => whnf
          refine cmpI (fun q2 => ?_) (fun q2 => ?_) <;> conv => whnf
          · refine cmpI (fun q3 => ?_) (fun q3 => ?_) <;> conv => whnf
            · obtain ⟨y, hy⟩ := hke q2 q3
              exact (neg_no (by omega) hy).elim
            · repeat' ((first|refine nI ?_|refine aI ?_|refine arU trivial (by omega) ?_|refine arB trivial (by omega) ?_|refine dI ?_|refine dR ?_|refine dP ?_|refine boxP rfl ?_|refine pI _ rfl ?_|refine rowSetI _ rfl ?_|refine tI ?_|refine fI ?_|refine cmpI (fun _ => ?_) (fun _ => ?_)) <;> conv => whnf)
              exact ⟨k + 1, (Sub.id_ 400 rfl auto_ auto_), by omega, by dsimp only; omega⟩
          · repeat' ((first|refine nI ?_|refine aI ?_|refine arU trivial (by omega) ?_|refine arB trivial (by omega) ?_|refine dI ?_|refine dR ?_|refine dP ?_|refine boxP rfl ?_|refine pI _ rfl ?_|refine rowSetI _ rfl ?_|refine tI ?_|refine fI ?_|refine cmpI (fun _ => ?_) (fun _ => ?_)) <;> conv => whnf)
            exact ⟨k + 1, (Sub.id_ 400 rfl auto_ auto_), by omega, by dsimp only; omega⟩
        · (refine oP (solverF) ?_; conv => whnf)
          exact ⟨rfl, rfl⟩
theorem lawRefB (s : LSys) (nodes : List Nod) (x : List Int) (hs : okS s) (ho : okN nodes) (hx : x.length ≤ 140737488355328) (h1 : ¬ 12 < (s.rows.length : Int)) (h2 : ¬ 6 < s.vars) (h3 : ¬ 450 < (nodes.length : Int)) (h4 : ¬ 200 < (x.length : Int)) (hr : ¬ refB s nodes) (hi : satB s x) :
    PSpec Try.prog 3 [.agg (encSy s), .agg [.sl nod0 encNo nodes], .sl 0 encI x] (fun u => u = .bool true) := by
  refine PSpec.intro tt_ok mx_ok Try.func3 rfl (by decide) ?_; (conv => whnf)
  refine boxP rfl ?_
  conv => whnf
  refine boxP rfl ?_
  conv => whnf
  refine cmpF h1 ?_
  conv => whnf
  refine cmpF h2 ?_
  conv => whnf
  refine cmpF h3 ?_
  conv => whnf
  refine cmpF h4 ?_
  conv => whnf
  (refine oP ((CheckRefutationF s nodes hs ho).mono fun u hu => show u = .bool false by (rw [hu, decide_eq_false hr])) ?_; conv => whnf)
  (refine oP ((SatisfiesF s x hs hx).mono fun u hu => show u = .bool true by (rw [hu, decide_eq_true hi])) ?_; conv => whnf)
  refine Spec.of_pure (n := 5) (SolveF s 60 hs) rfl ?_
  rintro u (⟨g1, rfl⟩ | ⟨_, g1, rfl⟩ | ⟨hz, g0, ⟨x', pc, g1, g2, rfl⟩ | ⟨g1, g2, rfl⟩ | ⟨g1, g2, rfl⟩⟩)
  · exact (g1 hi.1).elim
  · omega
  · have hsat := sol_point hz g0 g1
    have hsl := hsat.2.1
    have hsz := (sysE_ok hz).1
    rcases PtA_cases g2 with ⟨hp, rfl⟩ | ⟨z, hp, hx, rfl⟩ | ⟨ad, hp, rfl⟩
    · cases hp
    · cases hp
      have hS : PSpec Try.prog 6 [.agg (encSy s), .sl 0 encI x'] (fun u => u = .bool true) := (SatisfiesF s x' hs (by omega)).mono fun u hu => by rw [hu, decide_eq_true hsat]
      conv => whnf
      refine Spec.of_pure (n := 5) (LeastF s 2 hs (by omega)) rfl ?_
      rintro u (⟨y, hyl, hy, rfl⟩ | ⟨e, rfl⟩)
      · have hsy := (sysE_ok hy.1).1
        have hSy : PSpec Try.prog 6 [.agg (encSy s), .sl 0 encI y] (fun u => u = .bool true) := (SatisfiesF s y hs (by omega)).mono fun u hu => by rw [hu, decide_eq_true hy]
        conv => whnf
        refine cmpF (fun h => h rfl) ?_
        conv => whnf
        refine cmpT rfl ?_
        conv => whnf
        (refine oP (hS) ?_; conv => whnf)
        refine cmpF (by decide) ?_
        conv => whnf
        refine cmpT rfl ?_
        conv => whnf
        (refine oP (hSy) ?_; conv => whnf)
        refine WPc.loopF tt_ok mx_ok (fun k : Nat => k ≤ s.rows.length) (fun k => [(14, .int .i64 (k : Int)), (9, .top), (74, .top), (81, .top), (87, .top), (97, .top)]) (fun _ => []) (fun k => s.rows.length - k) 0 (Nat.zero_le _) ?_; conv => whnf
        refine ⟨(Sub.id_ 400 rfl auto_ auto_), ?_⟩
        rintro k hk
        conv => whnf
        refine cmpI (fun q1 => ?_) (fun q1 => ?_) <;> conv => whnf
        · refine drawI (by decide +kernel) ?_
          conv => whnf
          refine needI (by omega) ?_
          rw [Int.toNat_natCast]
          conv => whnf
          refine callPI 5 (EntailsF s (s.rows.getD k row0) 60 hs (hs.2 k (by omega))) rfl ⟨_, 0, 1, rfl, fun h => absurd h (by decide)⟩ ?_
          rintro u ⟨kk, e, rfl, hke⟩
          conv => whnf
          refine cmpI (fun q2 => ?_) (fun q2 => ?_) <;> conv => whnf
          · refine cmpI (fun q3 => ?_) (fun q3 => ?_) <;> conv => whnf
            · obtain ⟨y, hy⟩ := hke q2 q3
              exact (neg_no (by omega) hy).elim
            · repeat' ((first|refine nI ?_|refine aI ?_|refine arU trivial (by omega) ?_|refine arB trivial (by omega) ?_|refine dI ?_|refine dR ?_|refine dP ?_|refine boxP rfl ?_|refine pI _ rfl ?_|refine rowSetI _ rfl ?_|refine tI ?_|refine fI ?_|refine cmpI (fun _ => ?_) (fun _ => ?_)) <;> conv => whnf)
              exact ⟨k + 1, (Sub.id_ 400 rfl auto_ auto_), by omega, by dsimp only; omega⟩
          · repeat' ((first|refine nI ?_|refine aI ?_|refine arU trivial (by omega) ?_|refine arB trivial (by omega) ?_|refine dI ?_|refine dR ?_|refine dP ?_|refine boxP rfl ?_|refine pI _ rfl ?_|refine rowSetI _ rfl ?_|refine tI ?_|refine fI ?_|refine cmpI (fun _ => ?_) (fun _ => ?_)) <;> conv => whnf)
            exact ⟨k + 1, (Sub.id_ 400 rfl auto_ auto_), by omega, by dsimp only; omega⟩
        · (refine oP (solverF) ?_; conv => whnf)
          exact ⟨rfl, rfl⟩
      · conv => whnf
        refine cmpF (fun h => h rfl) ?_
        conv => whnf
        refine cmpT rfl ?_
        conv => whnf
        (refine oP (hS) ?_; conv => whnf)
        refine cmpF (by decide) ?_
        conv => whnf
        by_cases he : e = 0
        · refine cmpT he ?_
          conv => whnf
          refine WPc.loopF tt_ok mx_ok (fun k : Nat => k ≤ s.rows.length) (fun k => [(14, .int .i64 (k : Int)), (9, .top), (74, .top), (81, .top), (87, .top), (97, .top)]) (fun _ => []) (fun k => s.rows.length - k) 0 (Nat.zero_le _) ?_; conv => whnf
          refine ⟨(Sub.id_ 400 rfl auto_ auto_), ?_⟩
          rintro k hk
          conv => whnf
          refine cmpI (fun q1 => ?_) (fun q1 => ?_) <;> conv => whnf
          · refine drawI (by decide +kernel) ?_
            conv => whnf
            refine needI (by omega) ?_
            rw [Int.toNat_natCast]
            conv => whnf
            refine callPI 5 (EntailsF s (s.rows.getD k row0) 60 hs (hs.2 k (by omega))) rfl ⟨_, 0, 1, rfl, fun h => absurd h (by decide)⟩ ?_
            rintro u ⟨kk, e, rfl, hke⟩
            conv => whnf
            refine cmpI (fun q2 => ?_) (fun q2 => ?_) <;> conv => whnf
            · refine cmpI (fun q3 => ?_) (fun q3 => ?_) <;> conv => whnf
              · obtain ⟨y, hy⟩ := hke q2 q3
                exact (neg_no (by omega) hy).elim
              · repeat' ((first|refine nI ?_|refine aI ?_|refine arU trivial (by omega) ?_|refine arB trivial (by omega) ?_|refine dI ?_|refine dR ?_|refine dP ?_|refine boxP rfl ?_|refine pI _ rfl ?_|refine rowSetI _ rfl ?_|refine tI ?_|refine fI ?_|refine cmpI (fun _ => ?_) (fun _ => ?_)) <;> conv => whnf)
                exact ⟨k + 1, (Sub.id_ 400 rfl auto_ auto_), by omega, by dsimp only; omega⟩
            · repeat' ((first|refine nI ?_|refine aI ?_|refine arU trivial (by omega) ?_|refine arB trivial (by omega) ?_|refine dI ?_|refine dR ?_|refine dP ?_|refine boxP rfl ?_|refine pI _ rfl ?_|refine rowSetI _ rfl ?_|refine tI ?_|refine fI ?_|refine cmpI (fun _ => ?_) (fun _ => ?_)) <;> conv => whnf)
              exact ⟨k + 1, (Sub.id_ 400 rfl auto_ auto_), by omega, by dsimp only; omega⟩
          · (refine oP (solverF) ?_; conv => whnf)
            exact ⟨rfl, rfl⟩
        · refine cmpF he ?_
          conv => whnf
          refine WPc.loopF tt_ok mx_ok (fun k : Nat => k ≤ s.rows.length) (fun k => [(14, .int .i64 (k : Int)), (9, .top), (74, .top), (81, .top), (87, .top), (97, .top)]) (fun _ => []) (fun k => s.rows.length - k) 0 (Nat.zero_le _) ?_; conv => whnf
          refine ⟨(Sub.id_ 400 rfl auto_ auto_), ?_⟩
          rintro k hk
          conv => whnf
          refine cmpI (fun q1 => ?_) (fun q1 => ?_) <;> conv => whnf
          · refine drawI (by decide +kernel) ?_
            conv => whnf
            refine needI (by omega) ?_
            rw [Int.toNat_natCast]
            conv => whnf
            refine callPI 5 (EntailsF s (s.rows.getD k row0) 60 hs (hs.2 k (by omega))) rfl ⟨_, 0, 1, rfl, fun h => absurd h (by decide)⟩ ?_
            rintro u ⟨kk, e, rfl, hke⟩
            conv => whnf
            refine cmpI (fun q2 => ?_) (fun q2 => ?_) <;> conv => whnf
            · refine cmpI (fun q3 => ?_) (fun q3 => ?_) <;> conv => whnf
              · obtain ⟨y, hy⟩ := hke q2 q3
                exact (neg_no (by omega) hy).elim
              · repeat' ((first|refine nI ?_|refine aI ?_|refine arU trivial (by omega) ?_|refine arB trivial (by omega) ?_|refine dI ?_|refine dR ?_|refine dP ?_|refine boxP rfl ?_|refine pI _ rfl ?_|refine rowSetI _ rfl ?_|refine tI ?_|refine fI ?_|refine cmpI (fun _ => ?_) (fun _ => ?_)) <;> conv => whnf)
                exact ⟨k + 1, (Sub.id_ 400 rfl auto_ auto_), by omega, by dsimp only; omega⟩
            · repeat' ((first|refine nI ?_|refine aI ?_|refine arU trivial (by omega) ?_|refine arB trivial (by omega) ?_|refine dI ?_|refine dR ?_|refine dP ?_|refine boxP rfl ?_|refine pI _ rfl ?_|refine rowSetI _ rfl ?_|refine tI ?_|refine fI ?_|refine cmpI (fun _ => ?_) (fun _ => ?_)) <;> conv => whnf)
              exact ⟨k + 1, (Sub.id_ 400 rfl auto_ auto_), by omega, by dsimp only; omega⟩
          · (refine oP (solverF) ?_; conv => whnf)
            exact ⟨rfl, rfl⟩
    · cases hp
      have hS : PSpec Try.prog 6 [.agg (encSy s), .val (.slice (some ad) 0 0)] (fun u => u = .bool true) := sat_empty hs hsat ad
      conv => whnf
      refine Spec.of_pure (n := 5) (LeastF s 2 hs (by omega)) rfl ?_
      rintro u (⟨y, hyl, hy, rfl⟩ | ⟨e, rfl⟩)
      · have hsy := (sysE_ok hy.1).1
        have hSy : PSpec Try.prog 6 [.agg (encSy s), .sl 0 encI y] (fun u => u = .bool true) := (SatisfiesF s y hs (by omega)).mono fun u hu => by rw [hu, decide_eq_true hy]
        conv => whnf
        refine cmpF (fun h => h rfl) ?_
        conv => whnf
        refine cmpT rfl ?_
        conv => whnf
        (refine oP (hS) ?_; conv => whnf)
        refine cmpF (by decide) ?_
        conv => whnf
        refine cmpT rfl ?_
        conv => whnf
        (refine oP (hSy) ?_; conv => whnf)
        refine WPc.loopF tt_ok mx_ok (fun k : Nat => k ≤ s.rows.length) (fun k => [(14, .int .i64 (k : Int)), (9, .top), (74, .top), (81, .top), (87, .top), (97, .top)]) (fun _ => []) (fun k => s.rows.length - k) 0 (Nat.zero_le _) ?_; conv => whnf
        refine ⟨(Sub.id_ 400 rfl auto_ auto_), ?_⟩
        rintro k hk
        conv => whnf
        refine cmpI (fun q1 => ?_) (fun q1 => ?_) <;> conv => whnf
        · refine drawI (by decide +kernel) ?_
          conv => whnf
          refine needI (by omega) ?_
          rw [Int.toNat_natCast]
          conv => whnf
          refine callPI 5 (EntailsF s (s.rows.getD k row0) 60 hs (hs.2 k (by omega))) rfl ⟨_, 0, 1, rfl, fun h => absurd h (by decide)⟩ ?_
          rintro u ⟨kk, e, rfl, hke⟩
          conv => whnf
          refine cmpI (fun q2 => ?_) (fun q2 => ?_) <;> conv => whnf
          · refine cmpI (fun q3 => ?_) (fun q3 => ?_) <;> conv => whnf
            · obtain ⟨y, hy⟩ := hke q2 q3
              exact (neg_no (by omega) hy).elim
            · repeat' ((first|refine nI ?_|refine aI ?_|refine arU trivial (by omega) ?_|refine arB trivial (by omega) ?_|refine dI ?_|refine dR ?_|refine dP ?_|refine boxP rfl ?_|refine pI _ rfl ?_|refine rowSetI _ rfl ?_|refine tI ?_|refine fI ?_|refine cmpI (fun _ => ?_) (fun _ => ?_)) <;> conv => whnf)
              exact ⟨k + 1, (Sub.id_ 400 rfl auto_ auto_), by omega, by dsimp only; omega⟩
          · repeat' ((first|refine nI ?_|refine aI ?_|refine arU trivial (by omega) ?_|refine arB trivial (by omega) ?_|refine dI ?_|refine dR ?_|refine dP ?_|refine boxP rfl ?_|refine pI _ rfl ?_|refine rowSetI _ rfl ?_|refine tI ?_|refine fI ?_|refine cmpI (fun _ => ?_) (fun _ => ?_)) <;> conv => whnf)
            exact ⟨k + 1, (Sub.id_ 400 rfl auto_ auto_), by omega, by dsimp only; omega⟩
        · (refine oP (solverF) ?_; conv => whnf)
          exact ⟨rfl, rfl⟩
      · conv => whnf
        refine cmpF (fun h => h rfl) ?_
        conv => whnf
        refine cmpT rfl ?_
        conv => whnf
        (refine oP (hS) ?_; conv => whnf)
        refine cmpF (by decide) ?_
        conv => whnf
        by_cases he : e = 0
        · refine cmpT he ?_
          conv => whnf
          refine WPc.loopF tt_ok mx_ok (fun k : Nat => k ≤ s.rows.length) (fun k => [(14, .int .i64 (k : Int)), (9, .top), (74, .top), (81, .top), (87, .top), (97, .top)]) (fun _ => []) (fun k => s.rows.length - k) 0 (Nat.zero_le _) ?_; conv => whnf
          refine ⟨(Sub.id_ 400 rfl auto_ auto_), ?_⟩
          rintro k hk
          conv => whnf
          refine cmpI (fun q1 => ?_) (fun q1 => ?_) <;> conv => whnf
          · refine drawI (by decide +kernel) ?_
            conv => whnf
            refine needI (by omega) ?_
            rw [Int.toNat_natCast]
            conv => whnf
            refine callPI 5 (EntailsF s (s.rows.getD k row0) 60 hs (hs.2 k (by omega))) rfl ⟨_, 0, 1, rfl, fun h => absurd h (by decide)⟩ ?_
            rintro u ⟨kk, e, rfl, hke⟩
            conv => whnf
            refine cmpI (fun q2 => ?_) (fun q2 => ?_) <;> conv => whnf
            · refine cmpI (fun q3 => ?_) (fun q3 => ?_) <;> conv => whnf
              · obtain ⟨y, hy⟩ := hke q2 q3
                exact (neg_no (by omega) hy).elim
              · repeat' ((first|refine nI ?_|refine aI ?_|refine arU trivial (by omega) ?_|refine arB trivial (by omega) ?_|refine dI ?_|refine dR ?_|refine dP ?_|refine boxP rfl ?_|refine pI _ rfl ?_|refine rowSetI _ rfl ?_|refine tI ?_|refine fI ?_|refine cmpI (fun _ => ?_) (fun _ => ?_)) <;> conv => whnf)
                exact ⟨k + 1, (Sub.id_ 400 rfl auto_ auto_), by omega, by dsimp only; omega⟩
            · repeat' ((first|refine nI ?_|refine aI ?_|refine arU trivial (by omega) ?_|refine arB trivial (by omega) ?_|refine dI ?_|refine dR ?_|refine dP ?_|refine boxP rfl ?_|refine pI _ rfl ?_|refine rowSetI _ rfl ?_|refine tI ?_|refine fI ?_|refine cmpI (fun _ => ?_) (fun _ => ?_)) <;> conv => whnf)
              exact ⟨k + 1, (Sub.id_ 400 rfl auto_ auto_), by omega, by dsimp only; omega⟩
          · (refine oP (solverF) ?_; conv => whnf)
            exact ⟨rfl, rfl⟩
        · refine cmpF he ?_
          conv => whnf
          refine WPc.loopF tt_ok mx_ok (fun k : Nat => k ≤ s.rows.length) (fun k => [(14, .int .i64 (k : Int)), (9, .top), (74, .top), (81, .top), (87, .top), (97, .top)]) (fun _ => []) (fun k => s.rows.length - k) 0 (Nat.zero_le _) ?_; conv => whnf
          refine ⟨(Sub.id_ 400 rfl auto_ auto_), ?_⟩
          rintro k hk
          conv => whnf
          refine cmpI (fun q1 => ?_) (fun q1 => ?_) <;> conv => whnf
          · refine drawI (by decide +kernel) ?_
            conv => whnf
            refine needI (by omega) ?_
            rw [Int.toNat_natCast]
            conv => whnf
            refine callPI 5 (EntailsF s (s.rows.getD k row0) 60 hs (hs.2 k (by omega))) rfl ⟨_, 0, 1, rfl, fun h => absurd h (by decide)⟩ ?_
            rintro u ⟨kk, e, rfl, hke⟩
            conv => whnf
            refine cmpI (fun q2 => ?_) (fun q2 => ?_) <;> conv => whnf
            · refine cmpI (fun q3 => ?_) (fun q3 => ?_) <;> conv => whnf
              · obtain ⟨y, hy⟩ := hke q2 q3
                exact (neg_no (by omega) hy).elim
              · repeat' ((first|refine nI ?_|refine aI ?_|refine arU trivial (by omega) ?_|refine arB trivial (by omega) ?_|refine dI ?_|refine dR ?_|refine dP ?_|refine boxP rfl ?_|refine pI _ rfl ?_|refine rowSetI _ rfl ?_|refine tI ?_|refine fI ?_|refine cmpI (fun _ => ?_) (fun _ => ?_)) <;> conv => whnf)
                exact ⟨k + 1, (Sub.id_ 400 rfl auto_ auto_), by omega, by dsimp only; omega⟩
            · repeat' ((first|refine nI ?_|refine aI ?_|refine arU trivial (by omega) ?_|refine arB trivial (by omega) ?_|refine dI ?_|refine dR ?_|refine dP ?_|refine boxP rfl ?_|refine pI _ rfl ?_|refine rowSetI _ rfl ?_|refine tI ?_|refine fI ?_|refine cmpI (fun _ => ?_) (fun _ => ?_)) <;> conv => whnf)
              exact ⟨k + 1, (Sub.id_ 400 rfl auto_ auto_), by omega, by dsimp only; omega⟩
          · (refine oP (solverF) ?_; conv => whnf)
            exact ⟨rfl, rfl⟩
  · conv => whnf
    refine Spec.of_pure (n := 5) (LeastF s 2 hs (by omega)) rfl ?_
    rintro u (⟨y, hyl, hy, rfl⟩ | ⟨e, rfl⟩)
    · have hsy := (sysE_ok hy.1).1
      have hSy : PSpec Try.prog 6 [.agg (encSy s), .sl 0 encI y] (fun u => u = .bool true) := (SatisfiesF s y hs (by omega)).mono fun u hu => by rw [hu, decide_eq_true hy]
      conv => whnf
      refine cmpF (fun h => h rfl) ?_
      conv => whnf
      refine cmpF (by decide) ?_
      conv => whnf
      refine cmpF (by decide) ?_
      conv => whnf
      refine cmpT rfl ?_
      conv => whnf
      (refine oP (hSy) ?_; conv => whnf)
      refine WPc.loopF tt_ok mx_ok (fun k : Nat => k ≤ s.rows.length) (fun k => [(14, .int .i64 (k : Int)), (9, .top), (74, .top), (81, .top), (87, .top), (97, .top)]) (fun _ => []) (fun k => s.rows.length - k) 0 (Nat.zero_le _) ?_; conv => whnf
      refine ⟨(Sub.id_ 400 rfl auto_ auto_), ?_⟩
      rintro k hk
      conv => whnf
      refine cmpI (fun q1 => ?_) (fun q1 => ?_) <;> conv => whnf
      · refine drawI (by decide +kernel) ?_
        conv => whnf
        refine needI (by omega) ?_
        rw [Int.toNat_natCast]
        conv => whnf
        refine callPI 5 (EntailsF s (s.rows.getD k row0) 60 hs (hs.2 k (by omega))) rfl ⟨_, 0, 1, rfl, fun h => absurd h (by decide)⟩ ?_
        rintro u ⟨kk, e, rfl, hke⟩
        conv => whnf
        refine cmpI (fun q2 => ?_) (fun q2 => ?_) <;> conv => whnf
        · refine cmpI (fun q3 => ?_) (fun q3 => ?_) <;> conv => whnf
          · obtain ⟨y, hy⟩ := hke q2 q3
            exact (neg_no (by omega) hy).elim
          · repeat' ((first|refine nI ?_|refine aI ?_|refine arU trivial (by omega) ?_|refine arB trivial (by omega) ?_|refine dI ?_|refine dR ?_|refine dP ?_|refine boxP rfl ?_|refine pI _ rfl ?_|refine rowSetI _ rfl ?_|refine tI ?_|refine fI ?_|refine cmpI (fun _ => ?_) (fun _ => ?_)) <;> conv => whnf)
            exact ⟨k + 1, (Sub.id_ 400 rfl auto_ auto_), by omega, by dsimp only; omega⟩
        · repeat' ((first|refine nI ?_|refine aI ?_|refine arU trivial (by omega) ?_|refine arB trivial (by omega) ?_|refine dI ?_|refine dR ?_|refine dP ?_|refine boxP rfl ?_|refine pI _ rfl ?_|refine rowSetI _ rfl ?_|refine tI ?_|refine fI ?_|refine cmpI (fun _ => ?_) (fun _ => ?_)) <;> conv => whnf)
          exact ⟨k + 1, (Sub.id_ 400 rfl auto_ auto_), by omega, by dsimp only; omega⟩
      · (refine oP (solverF) ?_; conv => whnf)
        exact ⟨rfl, rfl⟩
    · conv => whnf
      refine cmpF (fun h => h rfl) ?_
      conv => whnf
      refine cmpF (by decide) ?_
      conv => whnf
      refine cmpF (by decide) ?_
      conv => whnf
      by_cases he : e = 0
      · refine cmpT he ?_
        conv => whnf
        refine WPc.loopF tt_ok mx_ok (fun k : Nat => k ≤ s.rows.length) (fun k => [(14, .int .i64 (k : Int)), (9, .top), (74, .top), (81, .top), (87, .top), (97, .top)]) (fun _ => []) (fun k => s.rows.length - k) 0 (Nat.zero_le _) ?_; conv => whnf
        refine ⟨(Sub.id_ 400 rfl auto_ auto_), ?_⟩
        rintro k hk
        conv => whnf
        refine cmpI (fun q1 => ?_) (fun q1 => ?_) <;> conv => whnf
        · refine drawI (by decide +kernel) ?_
          conv => whnf
          refine needI (by omega) ?_
          rw [Int.toNat_natCast]
          conv => whnf
          refine callPI 5 (EntailsF s (s.rows.getD k row0) 60 hs (hs.2 k (by omega))) rfl ⟨_, 0, 1, rfl, fun h => absurd h (by decide)⟩ ?_
          rintro u ⟨kk, e, rfl, hke⟩
          conv => whnf
          refine cmpI (fun q2 => ?_) (fun q2 => ?_) <;> conv => whnf
          · refine cmpI (fun q3 => ?_) (fun q3 => ?_) <;> conv => whnf
            · obtain ⟨y, hy⟩ := hke q2 q3
              exact (neg_no (by omega) hy).elim
            · repeat' ((first|refine nI ?_|refine aI ?_|refine arU trivial (by omega) ?_|refine arB trivial (by omega) ?_|refine dI ?_|refine dR ?_|refine dP ?_|refine boxP rfl ?_|refine pI _ rfl ?_|refine rowSetI _ rfl ?_|refine tI ?_|refine fI ?_|refine cmpI (fun _ => ?_) (fun _ => ?_)) <;> conv => whnf)
              exact ⟨k + 1, (Sub.id_ 400 rfl auto_ auto_), by omega, by dsimp only; omega⟩
          · repeat' ((first|refine nI ?_|refine aI ?_|refine arU trivial (by omega) ?_|refine arB trivial (by omega) ?_|refine dI ?_|refine dR ?_|refine dP ?_|refine boxP rfl ?_|refine pI _ rfl ?_|refine rowSetI _ rfl ?_|refine tI ?_|refine fI ?_|refine cmpI (fun _ => ?_) (fun _ => ?_)) <;> conv => whnf)
            exact ⟨k + 1, (Sub.id_ 400 rfl auto_ auto_), by omega, by dsimp only; omega⟩
        · (refine oP (solverF) ?_; conv => whnf)
          exact ⟨rfl, rfl⟩
      · refine cmpF he ?_
        conv => whnf
        refine WPc.loopF tt_ok mx_ok (fun k : Nat => k ≤ s.rows.length) (fun k => [(14, .int .i64 (k : Int)), (9, .top), (74, .top), (81, .top), (87, .top), (97, .top)]) (fun _ => []) (fun k => s.rows.length - k) 0 (Nat.zero_le _) ?_; conv => whnf
        refine ⟨(Sub.id_ 400 rfl auto_ auto_), ?_⟩
        rintro k hk
        conv => whnf
        refine cmpI (fun q1 => ?_) (fun q1 => ?_) <;> conv => whnf
        · refine drawI (by decide +kernel) ?_
          conv => whnf
          refine needI (by omega) ?_
          rw [Int.toNat_natCast]
          conv => whnf
          refine callPI 5 (EntailsF s (s.rows.getD k row0) 60 hs (hs.2 k (by omega))) rfl ⟨_, 0, 1, rfl, fun h => absurd h (by decide)⟩ ?_
          rintro u ⟨kk, e, rfl, hke⟩
          conv => whnf
          refine cmpI (fun q2 => ?_) (fun q2 => ?_) <;> conv => whnf
          · refine cmpI (fun q3 => ?_) (fun q3 => ?_) <;> conv => whnf
            · obtain ⟨y, hy⟩ := hke q2 q3
              exact (neg_no (by omega) hy).elim
            · repeat' ((first|refine nI ?_|refine aI ?_|refine arU trivial (by omega) ?_|refine arB trivial (by omega) ?_|refine dI ?_|refine dR ?_|refine dP ?_|refine boxP rfl ?_|refine pI _ rfl ?_|refine rowSetI _ rfl ?_|refine tI ?_|refine fI ?_|refine cmpI (fun _ => ?_) (fun _ => ?_)) <;> conv => whnf)
              exact ⟨k + 1, (Sub.id_ 400 rfl auto_ auto_), by omega, by dsimp only; omega⟩
          · repeat' ((first|refine nI ?_|refine aI ?_|refine arU trivial (by omega) ?_|refine arB trivial (by omega) ?_|refine dI ?_|refine dR ?_|refine dP ?_|refine boxP rfl ?_|refine pI _ rfl ?_|refine rowSetI _ rfl ?_|refine tI ?_|refine fI ?_|refine cmpI (fun _ => ?_) (fun _ => ?_)) <;> conv => whnf)
            exact ⟨k + 1, (Sub.id_ 400 rfl auto_ auto_), by omega, by dsimp only; omega⟩
        · (refine oP (solverF) ?_; conv => whnf)
          exact ⟨rfl, rfl⟩
  · exact (ref_sound (sol_refute hz g0 g1 g2) x hi).elim
theorem lawRefC (s : LSys) (nodes : List Nod) (x : List Int) (hs : okS s) (ho : okN nodes) (hx : x.length ≤ 140737488355328) (h1 : ¬ 12 < (s.rows.length : Int)) (h2 : ¬ 6 < s.vars) (h3 : ¬ 450 < (nodes.length : Int)) (h4 : ¬ 200 < (x.length : Int)) (hr : ¬ refB s nodes) (hi : ¬ satB s x) :
    PSpec Try.prog 3 [.agg (encSy s), .agg [.sl nod0 encNo nodes], .sl 0 encI x] (fun u => u = .bool true) := by
  refine PSpec.intro tt_ok mx_ok Try.func3 rfl (by decide) ?_; (conv => whnf)
  refine boxP rfl ?_
  conv => whnf
  refine boxP rfl ?_
  conv => whnf
  refine cmpF h1 ?_
  conv => whnf
  refine cmpF h2 ?_
  conv => whnf
  refine cmpF h3 ?_
  conv => whnf
  refine cmpF h4 ?_
  conv => whnf
  (refine oP ((CheckRefutationF s nodes hs ho).mono fun u hu => show u = .bool false by (rw [hu, decide_eq_false hr])) ?_; conv => whnf)
  (refine oP ((SatisfiesF s x hs hx).mono fun u hu => show u = .bool false by (rw [hu, decide_eq_false hi])) ?_; conv => whnf)
  refine Spec.of_pure (n := 5) (SolveF s 60 hs) rfl ?_
  rintro u (⟨g1, rfl⟩ | ⟨_, g1, rfl⟩ | ⟨hz, g0, ⟨x', pc, g1, g2, rfl⟩ | ⟨g1, g2, rfl⟩ | ⟨g1, g2, rfl⟩⟩)
  · conv => whnf
    refine Spec.of_pure (n := 5) (LeastF s 2 hs (by omega)) rfl ?_
    rintro u (⟨y, hyl, hy, rfl⟩ | ⟨e, rfl⟩)
    · exact (g1 hy.1).elim
    · conv => whnf
      refine cmpT g1 ?_
      conv => whnf
      (refine oP (solverF) ?_; conv => whnf)
      exact ⟨rfl, rfl⟩
  · omega
  · have hsat := sol_point hz g0 g1
    have hsl := hsat.2.1
    have hsz := (sysE_ok hz).1
    rcases PtA_cases g2 with ⟨hp, rfl⟩ | ⟨z, hp, hx, rfl⟩ | ⟨ad, hp, rfl⟩
    · cases hp
    · cases hp
      have hS : PSpec Try.prog 6 [.agg (encSy s), .sl 0 encI x'] (fun u => u = .bool true) := (SatisfiesF s x' hs (by omega)).mono fun u hu => by rw [hu, decide_eq_true hsat]
      conv => whnf
      refine Spec.of_pure (n := 5) (LeastF s 2 hs (by omega)) rfl ?_
      rintro u (⟨y, hyl, hy, rfl⟩ | ⟨e, rfl⟩)
      · have hsy := (sysE_ok hy.1).1
        have hSy : PSpec Try.prog 6 [.agg (encSy s), .sl 0 encI y] (fun u => u = .bool true) := (SatisfiesF s y hs (by omega)).mono fun u hu => by rw [hu, decide_eq_true hy]
        conv => whnf
        refine cmpF (fun h => h rfl) ?_
        conv => whnf
        refine cmpT rfl ?_
        conv => whnf
        (refine oP (hS) ?_; conv => whnf)
        refine cmpF (by decide) ?_
        conv => whnf
        refine cmpT rfl ?_
        conv => whnf
        (refine oP (hSy) ?_; conv => whnf)
        refine WPc.loopF tt_ok mx_ok (fun k : Nat => k ≤ s.rows.length) (fun k => [(14, .int .i64 (k : Int)), (9, .top), (74, .top), (81, .top), (87, .top), (97, .top)]) (fun _ => []) (fun k => s.rows.length - k) 0 (Nat.zero_le _) ?_; conv => whnf
        refine ⟨(Sub.id_ 400 rfl auto_ auto_), ?_⟩
        rintro k hk
        conv => whnf
        refine cmpI (fun q1 => ?_) (fun q1 => ?_) <;> conv => whnf
        · refine drawI (by decide +kernel) ?_
          conv => whnf
          refine needI (by omega) ?_
          rw [Int.toNat_natCast]
          conv => whnf
          refine callPI 5 (EntailsF s (s.rows.getD k row0) 60 hs (hs.2 k (by omega))) rfl ⟨_, 0, 1, rfl, fun h => absurd h (by decide)⟩ ?_
          rintro u ⟨kk, e, rfl, hke⟩
          conv => whnf
          refine cmpI (fun q2 => ?_) (fun q2 => ?_) <;> conv => whnf
          · refine cmpI (fun q3 => ?_) (fun q3 => ?_) <;> conv => whnf
            · obtain ⟨y, hy⟩ := hke q2 q3
              exact (neg_no (by omega) hy).elim
            · repeat' ((first|refine nI ?_|refine aI ?_|refine arU trivial (by omega) ?_|refine arB trivial (by omega) ?_|refine dI ?_|refine dR ?_|refine dP ?_|refine boxP rfl ?_|refine pI _ rfl ?_|refine rowSetI _ rfl ?_|refine tI ?_|refine fI ?_|refine cmpI (fun _ => ?_) (fun _ => ?_)) <;> conv => whnf)
              exact ⟨k + 1, (Sub.id_ 400 rfl auto_ auto_), by omega, by dsimp only; omega⟩
          · repeat' ((first|refine nI ?_|refine aI ?_|refine arU trivial (by omega) ?_|refine arB trivial (by omega) ?_|refine dI ?_|refine dR ?_|refine dP ?_|refine boxP rfl ?_|refine pI _ rfl ?_|refine rowSetI _ rfl ?_|refine tI ?_|refine fI ?_|refine cmpI (fun _ => ?_) (fun _ => ?_)) <;> conv => whnf)
            exact ⟨k + 1, (Sub.id_ 400 rfl auto_ auto_), by omega, by dsimp only; omega⟩
        · (refine oP (solverF) ?_; conv => whnf)
          exact ⟨rfl, rfl⟩
      · conv => whnf
        refine cmpF (fun h => h rfl) ?_
        conv => whnf
        refine cmpT rfl ?_
        conv => whnf
        (refine oP (hS) ?_; conv => whnf)
        refine cmpF (by decide) ?_
        conv => whnf
        by_cases he : e = 0
        · refine cmpT he ?_
          conv => whnf
          refine WPc.loopF tt_ok mx_ok (fun k : Nat => k ≤ s.rows.length) (fun k => [(14, .int .i64 (k : Int)), (9, .top), (74, .top), (81, .top), (87, .top), (97, .top)]) (fun _ => []) (fun k => s.rows.length - k) 0 (Nat.zero_le _) ?_; conv => whnf
          refine ⟨(Sub.id_ 400 rfl auto_ auto_), ?_⟩
          rintro k hk
          conv => whnf
          refine cmpI (fun q1 => ?_) (fun q1 => ?_) <;> conv => whnf
          · refine drawI (by decide +kernel) ?_
            conv => whnf
            refine needI (by omega) ?_
            rw [Int.toNat_natCast]
            conv => whnf
            refine callPI 5 (EntailsF s (s.rows.getD k row0) 60 hs (hs.2 k (by omega))) rfl ⟨_, 0, 1, rfl, fun h => absurd h (by decide)⟩ ?_
            rintro u ⟨kk, e, rfl, hke⟩
            conv => whnf
            refine cmpI (fun q2 => ?_) (fun q2 => ?_) <;> conv => whnf
            · refine cmpI (fun q3 => ?_) (fun q3 => ?_) <;> conv => whnf
              · obtain ⟨y, hy⟩ := hke q2 q3
                exact (neg_no (by omega) hy).elim
              · repeat' ((first|refine nI ?_|refine aI ?_|refine arU trivial (by omega) ?_|refine arB trivial (by omega) ?_|refine dI ?_|refine dR ?_|refine dP ?_|refine boxP rfl ?_|refine pI _ rfl ?_|refine rowSetI _ rfl ?_|refine tI ?_|refine fI ?_|refine cmpI (fun _ => ?_) (fun _ => ?_)) <;> conv => whnf)
                exact ⟨k + 1, (Sub.id_ 400 rfl auto_ auto_), by omega, by dsimp only; omega⟩
            · repeat' ((first|refine nI ?_|refine aI ?_|refine arU trivial (by omega) ?_|refine arB trivial (by omega) ?_|refine dI ?_|refine dR ?_|refine dP ?_|refine boxP rfl ?_|refine pI _ rfl ?_|refine rowSetI _ rfl ?_|refine tI ?_|refine fI ?_|refine cmpI (fun _ => ?_) (fun _ => ?_)) <;> conv => whnf)
              exact ⟨k + 1, (Sub.id_ 400 rfl auto_ auto_), by omega, by dsimp only; omega⟩
          · (refine oP (solverF) ?_; conv => whnf)
            exact ⟨rfl, rfl⟩
        · refine cmpF he ?_
          conv => whnf
          refine WPc.loopF tt_ok mx_ok (fun k : Nat => k ≤ s.rows.length) (fun k => [(14, .int .i64 (k : Int)), (9, .top), (74, .top), (81, .top), (87, .top), (97, .top)]) (fun _ => []) (fun k => s.rows.length - k) 0 (Nat.zero_le _) ?_; conv => whnf
          refine ⟨(Sub.id_ 400 rfl auto_ auto_), ?_⟩
          rintro k hk
          conv => whnf
          refine cmpI (fun q1 => ?_) (fun q1 => ?_) <;> conv => whnf
          · refine drawI (by decide +kernel) ?_
            conv => whnf
            refine needI (by omega) ?_
            rw [Int.toNat_natCast]
            conv => whnf
            refine callPI 5 (EntailsF s (s.rows.getD k row0) 60 hs (hs.2 k (by omega))) rfl ⟨_, 0, 1, rfl, fun h => absurd h (by decide)⟩ ?_
            rintro u ⟨kk, e, rfl, hke⟩
            conv => whnf
            refine cmpI (fun q2 => ?_) (fun q2 => ?_) <;> conv => whnf
            · refine cmpI (fun q3 => ?_) (fun q3 => ?_) <;> conv => whnf
              · obtain ⟨y, hy⟩ := hke q2 q3
                exact (neg_no (by omega) hy).elim
              · repeat' ((first|refine nI ?_|refine aI ?_|refine arU trivial (by omega) ?_|refine arB trivial (by omega) ?_|refine dI ?_|refine dR ?_|refine dP ?_|refine boxP rfl ?_|refine pI _ rfl ?_|refine rowSetI _ rfl ?_|refine tI ?_|refine fI ?_|refine cmpI (fun _ => ?_) (fun _ => ?_)) <;> conv => whnf)
                exact ⟨k + 1, (Sub.id_ 400 rfl auto_ auto_), by omega, by dsimp only; omega⟩
            · repeat' ((first|refine nI ?_|refine aI ?_|refine arU trivial (by omega) ?_|refine arB trivial (by omega) ?_|refine dI ?_|refine dR ?_|refine dP ?_|refine boxP rfl ?_|refine pI _ rfl ?_|refine rowSetI _ rfl ?_|refine tI ?_|refine fI ?_|refine cmpI (fun _ => ?_) (fun _ => ?_)) <;> conv => whnf)
              exact ⟨k + 1, (Sub.id_ 400 rfl auto_ auto_), by omega, by dsimp only; omega⟩
          · (refine oP (solverF) ?_; conv => whnf)
            exact ⟨rfl, rfl⟩
    · cases hp
      have hS : PSpec Try.prog 6 [.agg (encSy s), .val (.slice (some ad) 0 0)] (fun u => u = .bool true) := sat_empty hs hsat ad
      conv => whnf
      refine Spec.of_pure (n := 5) (LeastF s 2 hs (by omega)) rfl ?_
      rintro u (⟨y, hyl, hy, rfl⟩ | ⟨e, rfl⟩)
      · have hsy := (sysE_ok hy.1).1
        have hSy : PSpec Try.prog 6 [.agg (encSy s), .sl 0 encI y] (fun u => u = .bool true) := (SatisfiesF s y hs (by omega)).mono fun u hu => by rw [hu, decide_eq_true hy]
        conv => whnf
        refine cmpF (fun h => h rfl) ?_
        conv => whnf
        refine cmpT rfl ?_
        conv => whnf
        (refine oP (hS) ?_; conv => whnf)
        refine cmpF (by decide) ?_
        conv => whnf
        refine cmpT rfl ?_
        conv => whnf
        (refine oP (hSy) ?_; conv => whnf)
        refine WPc.loopF tt_ok mx_ok (fun k : Nat => k ≤ s.rows.length) (fun k => [(14, .int .i64 (k : Int)), (9, .top), (74, .top), (81, .top), (87, .top), (97, .top)]) (fun _ => []) (fun k => s.rows.length - k) 0 (Nat.zero_le _) ?_; conv => whnf
        refine ⟨(Sub.id_ 400 rfl auto_ auto_), ?_⟩
        rintro k hk
        conv => whnf
        refine cmpI (fun q1 => ?_) (fun q1 => ?_) <;> conv => whnf
        · refine drawI (by decide +kernel) ?_
          conv => whnf
          refine needI (by omega) ?_
          rw [Int.toNat_natCast]
          conv => whnf
          refine callPI 5 (EntailsF s (s.rows.getD k row0) 60 hs (hs.2 k (by omega))) rfl ⟨_, 0, 1, rfl, fun h => absurd h (by decide)⟩ ?_
          rintro u ⟨kk, e, rfl, hke⟩
          conv => whnf
          refine cmpI (fun q2 => ?_) (fun q2 => ?_) <;> conv => whnf
          · refine cmpI (fun q3 => ?_) (fun q3 => ?_) <;> conv => whnf
            · obtain ⟨y, hy⟩ := hke q2 q3
              exact (neg_no (by omega) hy).elim
            · repeat' ((first|refine nI ?_|refine aI ?_|refine arU trivial (by omega) ?_|refine arB trivial (by omega) ?_|refine dI ?_|refine dR ?_|refine dP ?_|refine boxP rfl ?_|refine pI _ rfl ?_|refine rowSetI _ rfl ?_|refine tI ?_|refine fI ?_|refine cmpI (fun _ => ?_) (fun _ => ?_)) <;> conv => whnf)
              exact ⟨k + 1, (Sub.id_ 400 rfl auto_ auto_), by omega, by dsimp only; omega⟩
          · repeat' ((first|refine nI ?_|refine aI ?_|refine arU trivial (by omega) ?_|refine arB trivial (by omega) ?_|refine dI ?_|refine dR ?_|refine dP ?_|refine boxP rfl ?_|refine pI _ rfl ?_|refine rowSetI _ rfl ?_|refine tI ?_|refine fI ?_|refine cmpI (fun _ => ?_) (fun _ => ?_)) <;> conv => whnf)
            exact ⟨k + 1, (Sub.id_ 400 rfl auto_ auto_), by omega, by dsimp only; omega⟩
        · (refine oP (solverF) ?_; conv => whnf)
          exact ⟨rfl, rfl⟩
      · conv => whnf
        refine cmpF (fun h => h rfl) ?_
        conv => whnf
        refine cmpT rfl ?_
        conv => whnf
        (refine oP (hS) ?_; conv => whnf)
        refine cmpF (by decide) ?_
        conv => whnf
        by_cases he : e = 0
        · refine cmpT he ?_
          conv => whnf
          refine WPc.loopF tt_ok mx_ok (fun k : Nat => k ≤ s.rows.length) (fun k => [(14, .int .i64 (k : Int)), (9, .top), (74, .top), (81, .top), (87, .top), (97, .top)]) (fun _ => []) (fun k => s.rows.length - k) 0 (Nat.zero_le _) ?_; conv => whnf
          refine ⟨(Sub.id_ 400 rfl auto_ auto_), ?_⟩
          rintro k hk
          conv => whnf
          refine cmpI (fun q1 => ?_) (fun q1 => ?_) <;> conv => whnf
          · refine drawI (by decide +kernel) ?_
            conv => whnf
            refine needI (by omega) ?_
            rw [Int.toNat_natCast]
            conv => whnf
            refine callPI 5 (EntailsF s (s.rows.getD k row0) 60 hs (hs.2 k (by omega))) rfl ⟨_, 0, 1, rfl, fun h => absurd h (by decide)⟩ ?_
            rintro u ⟨kk, e, rfl, hke⟩
            conv => whnf
            refine cmpI (fun q2 => ?_) (fun q2 => ?_) <;> conv => whnf
            · refine cmpI (fun q3 => ?_) (fun q3 => ?_) <;> conv => whnf
              · obtain ⟨y, hy⟩ := hke q2 q3
                exact (neg_no (by omega) hy).elim
              · repeat' ((first|refine nI ?_|refine aI ?_|refine arU trivial (by omega) ?_|refine arB trivial (by omega) ?_|refine dI ?_|refine dR ?_|refine dP ?_|refine boxP rfl ?_|refine pI _ rfl ?_|refine rowSetI _ rfl ?_|refine tI ?_|refine fI ?_|refine cmpI (fun _ => ?_) (fun _ => ?_)) <;> conv => whnf)
                exact ⟨k + 1, (Sub.id_ 400 rfl auto_ auto_), by omega, by dsimp only; omega⟩
            · repeat' ((first|refine nI ?_|refine aI ?_|refine arU trivial (by omega) ?_|refine arB trivial (by omega) ?_|refine dI ?_|refine dR ?_|refine dP ?_|refine boxP rfl ?_|refine pI _ rfl ?_|refine rowSetI _ rfl ?_|refine tI ?_|refine fI ?_|refine cmpI (fun _ => ?_) (fun _ => ?_)) <;> conv => whnf)
              exact ⟨k + 1, (Sub.id_ 400 rfl auto_ auto_), by omega, by dsimp only; omega⟩
          · (refine oP (solverF) ?_; conv => whnf)
            exact ⟨rfl, rfl⟩
        · refine cmpF he ?_
          conv => whnf
          refine WPc.loopF tt_ok mx_ok (fun k : Nat => k ≤ s.rows.length) (fun k => [(14, .int .i64 (k : Int)), (9, .top), (74, .top), (81, .top), (87, .top), (97, .top)]) (fun _ => []) (fun k => s.rows.length - k) 0 (Nat.zero_le _) ?_; conv => whnf
          refine ⟨(Sub.id_ 400 rfl auto_ auto_), ?_⟩
          rintro k hk
          conv => whnf
          refine cmpI (fun q1 => ?_) (fun q1 => ?_) <;> conv => whnf
          · refine drawI (by decide +kernel) ?_
            conv => whnf
            refine needI (by omega) ?_
            rw [Int.toNat_natCast]
            conv => whnf
            refine callPI 5 (EntailsF s (s.rows.getD k row0) 60 hs (hs.2 k (by omega))) rfl ⟨_, 0, 1, rfl, fun h => absurd h (by decide)⟩ ?_
            rintro u ⟨kk, e, rfl, hke⟩
            conv => whnf
            refine cmpI (fun q2 => ?_) (fun q2 => ?_) <;> conv => whnf
            · refine cmpI (fun q3 => ?_) (fun q3 => ?_) <;> conv => whnf
              · obtain ⟨y, hy⟩ := hke q2 q3
                exact (neg_no (by omega) hy).elim
              · repeat' ((first|refine nI ?_|refine aI ?_|refine arU trivial (by omega) ?_|refine arB trivial (by omega) ?_|refine dI ?_|refine dR ?_|refine dP ?_|refine boxP rfl ?_|refine pI _ rfl ?_|refine rowSetI _ rfl ?_|refine tI ?_|refine fI ?_|refine cmpI (fun _ => ?_) (fun _ => ?_)) <;> conv => whnf)
                exact ⟨k + 1, (Sub.id_ 400 rfl auto_ auto_), by omega, by dsimp only; omega⟩
            · repeat' ((first|refine nI ?_|refine aI ?_|refine arU trivial (by omega) ?_|refine arB trivial (by omega) ?_|refine dI ?_|refine dR ?_|refine dP ?_|refine boxP rfl ?_|refine pI _ rfl ?_|refine rowSetI _ rfl ?_|refine tI ?_|refine fI ?_|refine cmpI (fun _ => ?_) (fun _ => ?_)) <;> conv => whnf)
              exact ⟨k + 1, (Sub.id_ 400 rfl auto_ auto_), by omega, by dsimp only; omega⟩
          · (refine oP (solverF) ?_; conv => whnf)
            exact ⟨rfl, rfl⟩
  · conv => whnf
    refine Spec.of_pure (n := 5) (LeastF s 2 hs (by omega)) rfl ?_
    rintro u (⟨y, hyl, hy, rfl⟩ | ⟨e, rfl⟩)
    · have hsy := (sysE_ok hy.1).1
      have hSy : PSpec Try.prog 6 [.agg (encSy s), .sl 0 encI y] (fun u => u = .bool true) := (SatisfiesF s y hs (by omega)).mono fun u hu => by rw [hu, decide_eq_true hy]
      conv => whnf
      refine cmpF (fun h => h rfl) ?_
      conv => whnf
      refine cmpF (by decide) ?_
      conv => whnf
      refine cmpF (by decide) ?_
      conv => whnf
      refine cmpT rfl ?_
      conv => whnf
      (refine oP (hSy) ?_; conv => whnf)
      refine WPc.loopF tt_ok mx_ok (fun k : Nat => k ≤ s.rows.length) (fun k => [(14, .int .i64 (k : Int)), (9, .top), (74, .top), (81, .top), (87, .top), (97, .top)]) (fun _ => []) (fun k => s.rows.length - k) 0 (Nat.zero_le _) ?_; conv => whnf
      refine ⟨(Sub.id_ 400 rfl auto_ auto_), ?_⟩
      rintro k hk
      conv => whnf
      refine cmpI (fun q1 => ?_) (fun q1 => ?_) <;> conv => whnf
      · refine drawI (by decide +kernel) ?_
        conv => whnf
        refine needI (by omega) ?_
        rw [Int.toNat_natCast]
        conv => whnf
        refine callPI 5 (EntailsF s (s.rows.getD k row0) 60 hs (hs.2 k (by omega))) rfl ⟨_, 0, 1, rfl, fun h => absurd h (by decide)⟩ ?_
        rintro u ⟨kk, e, rfl, hke⟩
        conv => whnf
        refine cmpI (fun q2 => ?_) (fun q2 => ?_) <;> conv => whnf
        · refine cmpI (fun q3 => ?_) (fun q3 => ?_) <;> conv => whnf
          · obtain ⟨y, hy⟩ := hke q2 q3
            exact (neg_no (by omega) hy).elim
          · repeat' ((first|refine nI ?_|refine aI ?_|refine arU trivial (by omega) ?_|refine arB trivial (by omega) ?_|refine dI ?_|refine dR ?_|refine dP ?_|refine boxP rfl ?_|refine pI _ rfl ?_|refine rowSetI _ rfl ?_|refine tI ?_|refine fI ?_|refine cmpI (fun _ => ?_) (fun _ => ?_)) <;> conv => whnf)
            exact ⟨k + 1, (Sub.id_ 400 rfl auto_ auto_), by omega, by dsimp only; omega⟩
        · repeat' ((first|refine nI ?_|refine aI ?_|refine arU trivial (by omega) ?_|refine arB trivial (by omega) ?_|refine dI ?_|refine dR ?_|refine dP ?_|refine boxP rfl ?_|refine pI _ rfl ?_|refine rowSetI _ rfl ?_|refine tI ?_|refine fI ?_|refine cmpI (fun _ => ?_) (fun _ => ?_)) <;> conv => whnf)
          exact ⟨k + 1, (Sub.id_ 400 rfl auto_ auto_), by omega, by dsimp only; omega⟩
      · (refine oP (solverF) ?_; conv => whnf)
        exact ⟨rfl, rfl⟩
    · conv => whnf
      refine cmpF (fun h => h rfl) ?_
      conv => whnf
      refine cmpF (by decide) ?_
      conv => whnf
      refine cmpF (by decide) ?_
      conv => whnf
      by_cases he : e = 0
      · refine cmpT he ?_
        conv => whnf
        refine WPc.loopF tt_ok mx_ok (fun k : Nat => k ≤ s.rows.length) (fun k => [(14, .int .i64 (k : Int)), (9, .top), (74, .top), (81, .top), (87, .top), (97, .top)]) (fun _ => []) (fun k => s.rows.length - k) 0 (Nat.zero_le _) ?_; conv => whnf
        refine ⟨(Sub.id_ 400 rfl auto_ auto_), ?_⟩
        rintro k hk
        conv => whnf
        refine cmpI (fun q1 => ?_) (fun q1 => ?_) <;> conv => whnf
        · refine drawI (by decide +kernel) ?_
          conv => whnf
          refine needI (by omega) ?_
          rw [Int.toNat_natCast]
          conv => whnf
          refine callPI 5 (EntailsF s (s.rows.getD k row0) 60 hs (hs.2 k (by omega))) rfl ⟨_, 0, 1, rfl, fun h => absurd h (by decide)⟩ ?_
          rintro u ⟨kk, e, rfl, hke⟩
          conv => whnf
          refine cmpI (fun q2 => ?_) (fun q2 => ?_) <;> conv => whnf
          · refine cmpI (fun q3 => ?_) (fun q3 => ?_) <;> conv => whnf
            · obtain ⟨y, hy⟩ := hke q2 q3
              exact (neg_no (by omega) hy).elim
            · repeat' ((first|refine nI ?_|refine aI ?_|refine arU trivial (by omega) ?_|refine arB trivial (by omega) ?_|refine dI ?_|refine dR ?_|refine dP ?_|refine boxP rfl ?_|refine pI _ rfl ?_|refine rowSetI _ rfl ?_|refine tI ?_|refine fI ?_|refine cmpI (fun _ => ?_) (fun _ => ?_)) <;> conv => whnf)
              exact ⟨k + 1, (Sub.id_ 400 rfl auto_ auto_), by omega, by dsimp only; omega⟩
          · repeat' ((first|refine nI ?_|refine aI ?_|refine arU trivial (by omega) ?_|refine arB trivial (by omega) ?_|refine dI ?_|refine dR ?_|refine dP ?_|refine boxP rfl ?_|refine pI _ rfl ?_|refine rowSetI _ rfl ?_|refine tI ?_|refine fI ?_|refine cmpI (fun _ => ?_) (fun _ => ?_)) <;> conv => whnf)
            exact ⟨k + 1, (Sub.id_ 400 rfl auto_ auto_), by omega, by dsimp only; omega⟩
        · (refine oP (solverF) ?_; conv => whnf)
          exact ⟨rfl, rfl⟩
      · refine cmpF he ?_
        conv => whnf
        refine WPc.loopF tt_ok mx_ok (fun k : Nat => k ≤ s.rows.length) (fun k => [(14, .int .i64 (k : Int)), (9, .top), (74, .top), (81, .top), (87, .top), (97, .top)]) (fun _ => []) (fun k => s.rows.length - k) 0 (Nat.zero_le _) ?_; conv => whnf
        refine ⟨(Sub.id_ 400 rfl auto_ auto_), ?_⟩
        rintro k hk
        conv => whnf
        refine cmpI (fun q1 => ?_) (fun q1 => ?_) <;> conv => whnf
        · refine drawI (by decide +kernel) ?_
          conv => whnf
          refine needI (by omega) ?_
          rw [Int.toNat_natCast]
          conv => whnf
          refine callPI 5 (EntailsF s (s.rows.getD k row0) 60 hs (hs.2 k (by omega))) rfl ⟨_, 0, 1, rfl, fun h => absurd h (by decide)⟩ ?_
          rintro u ⟨kk, e, rfl, hke⟩
          conv => whnf
          refine cmpI (fun q2 => ?_) (fun q2 => ?_) <;> conv => whnf
          · refine cmpI (fun q3 => ?_) (fun q3 => ?_) <;> conv => whnf
            · obtain ⟨y, hy⟩ := hke q2 q3
              exact (neg_no (by omega) hy).elim
            · repeat' ((first|refine nI ?_|refine aI ?_|refine arU trivial (by omega) ?_|refine arB trivial (by omega) ?_|refine dI ?_|refine dR ?_|refine dP ?_|refine boxP rfl ?_|refine pI _ rfl ?_|refine rowSetI _ rfl ?_|refine tI ?_|refine fI ?_|refine cmpI (fun _ => ?_) (fun _ => ?_)) <;> conv => whnf)
              exact ⟨k + 1, (Sub.id_ 400 rfl auto_ auto_), by omega, by dsimp only; omega⟩
          · repeat' ((first|refine nI ?_|refine aI ?_|refine arU trivial (by omega) ?_|refine arB trivial (by omega) ?_|refine dI ?_|refine dR ?_|refine dP ?_|refine boxP rfl ?_|refine pI _ rfl ?_|refine rowSetI _ rfl ?_|refine tI ?_|refine fI ?_|refine cmpI (fun _ => ?_) (fun _ => ?_)) <;> conv => whnf)
            exact ⟨k + 1, (Sub.id_ 400 rfl auto_ auto_), by omega, by dsimp only; omega⟩
        · (refine oP (solverF) ?_; conv => whnf)
          exact ⟨rfl, rfl⟩
  · have hC : PSpec Try.prog 5 [.agg (encSy s), .agg [.sl nod0 encNo (solB s 60).nodes]] (fun u => u = .bool true) := (CheckRefutationF s _ hs (sol_okN hz g0 g1 g2)).mono fun u hu => by rw [hu, decide_eq_true (sol_refute hz g0 g1 g2)]
    conv => whnf
    refine Spec.of_pure (n := 5) (LeastF s 2 hs (by omega)) rfl ?_
    rintro u (⟨y, hyl, hy, rfl⟩ | ⟨e, rfl⟩)
    · exact (ref_sound (sol_refute hz g0 g1 g2) y hy).elim
    · conv => whnf
      refine cmpF (fun h => h rfl) ?_
      conv => whnf
      refine cmpF (by decide) ?_
      conv => whnf
      refine cmpT rfl ?_
      conv => whnf
      (refine oP (hC) ?_; conv => whnf)
      by_cases he : e = 0
      · refine cmpT he ?_
        conv => whnf
        refine WPc.loopF tt_ok mx_ok (fun k : Nat => k ≤ s.rows.length) (fun k => [(14, .int .i64 (k : Int)), (9, .top), (74, .top), (81, .top), (87, .top), (97, .top)]) (fun _ => []) (fun k => s.rows.length - k) 0 (Nat.zero_le _) ?_; conv => whnf
        refine ⟨(Sub.id_ 400 rfl auto_ auto_), ?_⟩
        rintro k hk
        conv => whnf
        refine cmpI (fun q1 => ?_) (fun q1 => ?_) <;> conv => whnf
        · refine drawI (by decide +kernel) ?_
          conv => whnf
          refine needI (by omega) ?_
          rw [Int.toNat_natCast]
          conv => whnf
          refine callPI 5 (EntailsF s (s.rows.getD k row0) 60 hs (hs.2 k (by omega))) rfl ⟨_, 0, 1, rfl, fun h => absurd h (by decide)⟩ ?_
          rintro u ⟨kk, e, rfl, hke⟩
          conv => whnf
          refine cmpI (fun q2 => ?_) (fun q2 => ?_) <;> conv => whnf
          · refine cmpI (fun q3 => ?_) (fun q3 => ?_) <;> conv => whnf
            · obtain ⟨y, hy⟩ := hke q2 q3
              exact (neg_no (by omega) hy).elim
            · repeat' ((first|refine nI ?_|refine aI ?_|refine arU trivial (by omega) ?_|refine arB trivial (by omega) ?_|refine dI ?_|refine dR ?_|refine dP ?_|refine boxP rfl ?_|refine pI _ rfl ?_|refine rowSetI _ rfl ?_|refine tI ?_|refine fI ?_|refine cmpI (fun _ => ?_) (fun _ => ?_)) <;> conv => whnf)
              exact ⟨k + 1, (Sub.id_ 400 rfl auto_ auto_), by omega, by dsimp only; omega⟩
          · repeat' ((first|refine nI ?_|refine aI ?_|refine arU trivial (by omega) ?_|refine arB trivial (by omega) ?_|refine dI ?_|refine dR ?_|refine dP ?_|refine boxP rfl ?_|refine pI _ rfl ?_|refine rowSetI _ rfl ?_|refine tI ?_|refine fI ?_|refine cmpI (fun _ => ?_) (fun _ => ?_)) <;> conv => whnf)
            exact ⟨k + 1, (Sub.id_ 400 rfl auto_ auto_), by omega, by dsimp only; omega⟩
        · (refine oP (solverF) ?_; conv => whnf)
          exact ⟨rfl, rfl⟩
      · refine cmpF he ?_
        conv => whnf
        refine WPc.loopF tt_ok mx_ok (fun k : Nat => k ≤ s.rows.length) (fun k => [(14, .int .i64 (k : Int)), (9, .top), (74, .top), (81, .top), (87, .top), (97, .top)]) (fun _ => []) (fun k => s.rows.length - k) 0 (Nat.zero_le _) ?_; conv => whnf
        refine ⟨(Sub.id_ 400 rfl auto_ auto_), ?_⟩
        rintro k hk
        conv => whnf
        refine cmpI (fun q1 => ?_) (fun q1 => ?_) <;> conv => whnf
        · refine drawI (by decide +kernel) ?_
          conv => whnf
          refine needI (by omega) ?_
          rw [Int.toNat_natCast]
          conv => whnf
          refine callPI 5 (EntailsF s (s.rows.getD k row0) 60 hs (hs.2 k (by omega))) rfl ⟨_, 0, 1, rfl, fun h => absurd h (by decide)⟩ ?_
          rintro u ⟨kk, e, rfl, hke⟩
          conv => whnf
          refine cmpI (fun q2 => ?_) (fun q2 => ?_) <;> conv => whnf
          · refine cmpI (fun q3 => ?_) (fun q3 => ?_) <;> conv => whnf
            · obtain ⟨y, hy⟩ := hke q2 q3
              exact (neg_no (by omega) hy).elim
            · repeat' ((first|refine nI ?_|refine aI ?_|refine arU trivial (by omega) ?_|refine arB trivial (by omega) ?_|refine dI ?_|refine dR ?_|refine dP ?_|refine boxP rfl ?_|refine pI _ rfl ?_|refine rowSetI _ rfl ?_|refine tI ?_|refine fI ?_|refine cmpI (fun _ => ?_) (fun _ => ?_)) <;> conv => whnf)
              exact ⟨k + 1, (Sub.id_ 400 rfl auto_ auto_), by omega, by dsimp only; omega⟩
          · repeat' ((first|refine nI ?_|refine aI ?_|refine arU trivial (by omega) ?_|refine arB trivial (by omega) ?_|refine dI ?_|refine dR ?_|refine dP ?_|refine boxP rfl ?_|refine pI _ rfl ?_|refine rowSetI _ rfl ?_|refine tI ?_|refine fI ?_|refine cmpI (fun _ => ?_) (fun _ => ?_)) <;> conv => whnf)
            exact ⟨k + 1, (Sub.id_ 400 rfl auto_ auto_), by omega, by dsimp only; omega⟩
        · (refine oP (solverF) ?_; conv => whnf)
          exact ⟨rfl, rfl⟩
theorem lawRefuted (s : LSys) (nodes : List Nod) (x : List Int) (hs : okS s) (ho : okN nodes) (hx : x.length ≤ 140737488355328) :
    PSpec Try.prog 3 [.agg (encSy s), .agg [.sl nod0 encNo nodes], .sl 0 encI x] (fun u => u = .bool true) := by
  by_cases h : ¬ 12 < (s.rows.length : Int) ∧ ¬ 6 < s.vars ∧ ¬ 450 < (nodes.length : Int) ∧ ¬ 200 < (x.length : Int)
  · obtain ⟨h1, h2, h3, h4⟩ := h
    by_cases hr : refB s nodes
    · exact lawRefA s nodes x hs ho hx h1 h2 h3 h4 hr (ref_sound hr x)
    · by_cases hi : satB s x
      · exact lawRefB s nodes x hs ho hx h1 h2 h3 h4 hr hi
      · exact lawRefC s nodes x hs ho hx h1 h2 h3 h4 hr hi
  refine PSpec.intro tt_ok mx_ok Try.func3 rfl (by decide) ?_; (conv => whnf)
  refine boxP rfl ?_
  conv => whnf
  refine boxP rfl ?_
  conv => whnf
  refine cmpI (fun h1 => ?_) (fun h1 => ?_) <;> conv => whnf
  · (refine oP (solverF) ?_; conv => whnf)
    exact ⟨rfl, rfl⟩
  refine cmpI (fun h2 => ?_) (fun h2 => ?_) <;> conv => whnf
  · (refine oP (solverF) ?_; conv => whnf)
    exact ⟨rfl, rfl⟩
  refine cmpI (fun h3 => ?_) (fun h3 => ?_) <;> conv => whnf
  · (refine oP (solverF) ?_; conv => whnf)
    exact ⟨rfl, rfl⟩
  refine cmpI (fun h4 => ?_) (fun h4 => ?_) <;> conv => whnf
  · (refine oP (solverF) ?_; conv => whnf)
    exact ⟨rfl, rfl⟩
  exact (h ⟨h1, h2, h3, h4⟩).elim
end Go.Proofs.Ytgjmbmdaaahmkaa
