import Derived.Test.YtaeomngmcfdfpaaGreatDoorFsM
import Derived.Test.YtaeomngmcfdfpaaGreatDoorFsX
set_option linter.unusedVariables false
set_option linter.unusedSimpArgs false
namespace Go.Proofs.YtaeomngmcfdfpaaGreatDoor
set_option maxRecDepth 100000
set_option maxHeartbeats 16000000
noncomputable def cmE (p : Pro) (q : Prp) (m kind : Int) : Int := if propE p q ≠ 0 then propE p q else if 8 < m then 1 else if q.kind ≠ kind then 7 else 0
theorem checkMostF (p : Pro) (q : Prp) (m kind : Int) (hp : ¬ bigP p) (hq : ¬ bigQ q) : PSpec Tryz.prog 16 [.agg (encP p), .agg (encQ q), .int .i64 m, .int .i64 kind] (fun u => u = .int .i64 (cmE p q m kind)) := by
 have he := cmE.eq_1 p q m kind
 refine PSpec.intro tt_ok mx_ok Tryz.func16 rfl (by decide) ?_; (conv => whnf)
 refine boxP rfl ?_
 conv => whnf
 refine boxP rfl ?_
 conv => whnf
 (refine oP (propertyF p q (okP_of hp) (okQ_of hq)) ?_; conv => whnf)
 refine cmpI ?_ ?_ <;> (intro h1; conv => whnf)
 ·rw [if_pos h1] at he; exact ⟨av_int he.symm, rfl⟩
 rw [if_neg h1] at he
 refine cmpI ?_ ?_ <;> (intro h2; conv => whnf)
 ·rw [if_pos h2] at he; exact ⟨av_int he.symm, rfl⟩
 rw [if_neg h2] at he
 refine cmpI ?_ ?_ <;> (intro h3; conv => whnf)
 ·rw [if_pos h3] at he; exact ⟨av_int he.symm, rfl⟩
 ·rw [if_neg h3] at he; exact ⟨av_int he.symm, rfl⟩
def smU (P : Siz → Rn → Bool → Int → Prop) : AV → Prop := fun u => ∃ z r is e, u = .tup (.agg (encZ z) :: .agg (encRn r) :: [.bool is, .int .i64 e]) ∧ P z r is e
def smV (P : Siz → Rn → Bool → Int → Prop) : AV → Prop := fun u => smU P u ∨ ∃ is e, u = .tup (.agg (encZ siz0) :: .agg rnN :: [.bool is, .int .i64 e]) ∧ P siz0 rn0 is e
theorem PSpec.sm {f : FuncId} {args : List AV} {Q : Siz → Rn → Bool → Int → Prop} (h : PSpec Tryz.prog f args (smV Q)) : PSpec Tryz.prog f args (smU Q) := by
 refine PSpec.sub h ?_
 rintro u (⟨z, r, is, e, rfl, hQ⟩ | ⟨is, e, rfl, hQ⟩)
 ·exact ⟨_, ⟨z, r, is, e, rfl, hQ⟩, auto_, rfl⟩
 ·exact ⟨_, ⟨siz0, rn0, is, e, rfl, hQ⟩, auto_, rfl⟩
structure SmA (p : Pro) (q : Prp) (m : Int) (z : Siz) (r : Rn) (is : Bool) (e : Int) : Prop where
 bad : cmE p q m 1 ≠ 0 → z = siz0 ∧ r = rn0 ∧ is = false ∧ e = cmE p q m 1
 ok : cmE p q m 1 = 0 → SmP p q (szL p m.toNat) z r is e
theorem SmA.one {p : Pro} {q : Prp} {m : Int} {z z' : Siz} {r r' : Rn} {is is' : Bool} {e e' : Int} (h : SmA p q m z r is e) (k : SmA p q m z' r' is' e') : z = z' ∧ is = is' ∧ e = e' := by
 by_cases h0 : cmE p q m 1 = 0
 ·exact (h.ok h0).one (k.ok h0)
 ·obtain ⟨a1, _, a2, a3⟩ := h.bad h0
  obtain ⟨b1, _, b2, b3⟩ := k.bad h0
  exact ⟨by rw [a1, b1], by rw [a2, b2], by rw [a3, b3]⟩
theorem SmA.no {p : Pro} {q : Prp} {m : Int} {z : Siz} {r : Rn} {e : Int} (h : SmA p q m z r false e) : r = rn0 := by
 by_cases h0 : cmE p q m 1 = 0
 ·exact (h.ok h0).no
 ·exact (h.bad h0).2.1
theorem SmA.yes {p : Pro} {q : Prp} {m : Int} {z : Siz} {r : Rn} {e : Int} (h : SmA p q m z r true e) : vioB p q z r ∧ wideB r.start = false ∧ r.steps.length ≤ 4000 := by
 by_cases h0 : cmE p q m 1 = 0
 ·have hB := (h.ok h0).found
  obtain ⟨_, h1, h2⟩ := hB.yes rfl
  refine ⟨h1, h2, ?_⟩
  rcases hB.out with ⟨_, a, _⟩ | ⟨_, n, hn, _, a⟩
  ·cases a
  ·rw [a rfl]; exact hn
 ·have := (h.bad h0).2.2.1
  cases this
theorem cmE_ok {p : Pro} {q : Prp} {m : Int} (h : cmE p q m 1 = 0) : propE p q = 0 ∧ m ≤ 8 ∧ q.kind = 1 := by
 unfold cmE at h
 by_cases h1 : propE p q ≠ 0
 ·rw [if_pos h1] at h; exact absurd h h1
 rw [if_neg h1] at h
 by_cases h2 : 8 < m
 ·rw [if_pos h2] at h; omega
 rw [if_neg h2] at h
 by_cases h3 : q.kind ≠ 1
 ·rw [if_pos h3] at h; omega
 ·exact ⟨by omega, by omega, by omega⟩
theorem prop_val {p : Pro} {q : Prp} (h : propE p q = 0) : validE p = 0 := by
 by_cases hh : validE p = 0
 ·exact hh
 ·exfalso
  unfold propE at h
  rw [if_pos hh] at h
  exact hh h
theorem dropZ {l : List Siz} {k : Nat} (h : k < l.length) : l.drop k = l.getD k siz0 :: l.drop (k + 1) := by
 have e : l.getD k siz0 = l[k] := by rw [gD, gL h]; rfl
 rw [List.drop_eq_getElem_cons h, e]
def bxZ0 : Blk := .box 35 [.int .i64 0, .int .i64 0, .int .i64 0]
theorem lev_many {p : Pro} {q : Prp} {s : Siz} : ∀ n, (∀ m, m < n → OnAt p q s m) → ∃ L : List Cfg, L.Nodup ∧ L.length = n ∧ ∀ k ∈ L, ∃ m, m < n ∧ KD p q s m k
 |0, _ => ⟨[], List.nodup_nil, rfl, fun k hk => absurd hk List.not_mem_nil⟩
 |n + 1, h => by
  obtain ⟨L, h1, h2, h3⟩ := lev_many n fun m hm => h m (by omega)
  have hE := (h n (by omega)).1
  obtain ⟨k, hk⟩ := Classical.not_forall.1 hE
  obtain ⟨hk1, hk2⟩ := Classical.not_imp.1 hk
  refine ⟨k :: L, List.nodup_cons.2 ⟨fun hm => ?_, h1⟩, by rw [List.length_cons, h2], fun x hx => ?_⟩
  ·obtain ⟨m, a, b⟩ := h3 k hm
   exact hk2 ⟨m, a, b⟩
  ·rcases List.mem_cons.1 hx with rfl | hx
   ·exact ⟨n, by omega, hk1⟩
   ·obtain ⟨m, a, b⟩ := h3 x hx
    exact ⟨m, by omega, b⟩
theorem lev_le {p : Pro} {q : Prp} {s : Siz} {n : Nat} (h : ∀ m, m < n → OnAt p q s m) : n ≤ 4000 := by
 cases n with
 |zero => omega
 |succ n =>
  obtain ⟨L, h1, h2, h3⟩ := lev_many (n + 1) h
  obtain ⟨F, h4, h5⟩ := (h n (by omega)).2.2.1
  have := nodup_le h1 (m := F) fun k hk => by
   obtain ⟨m, a, b⟩ := h3 k hk
   exact h5 k (b.mono (by omega))
  omega
theorem lev_out {p : Pro} {q : Prp} {s : Siz} : ∃ n, (∀ m, m < n → OnAt p q s m) ∧ ¬ OnAt p q s n := by
 refine Classical.byContradiction fun hno => ?_
 have all : ∀ n, ∀ m, m < n → OnAt p q s m := by
  intro n
  induction n with
  |zero => exact fun m hm => absurd hm (Nat.not_lt_zero _)
  |succ n ih =>
   intro m hm
   by_cases e : m < n
   ·exact ih m e
   ·have : m = n := by omega
    subst this
    exact Classical.byContradiction fun hn => hno ⟨m, ih, hn⟩
 have := lev_le (all 4001)
 omega
theorem shB_ex {p : Pro} {q : Prp} {s : Siz} (S : Sys p q s) (hk : q.kind = 1) : ∃ r is e, ShB p q s r is e := by
 by_cases hi : iniK p q s
 case neg => exact ⟨rn0, false, 4, fun _ => rfl, fun h => (by cases h), .inl ⟨hi, rfl, rfl⟩⟩
 obtain ⟨n, h1, h2⟩ := lev_out (p := p) (q := q) (s := s)
 have hn := lev_le h1
 by_cases hE : EndAt p q s n
 ·exact ⟨rn0, false, 0, fun _ => rfl, fun h => (by cases h), .inr ⟨hi, n, hn, ⟨h1, .inl ⟨hE, rfl, rfl⟩⟩, fun h => (by cases h)⟩⟩
 by_cases hB : BadAt p q s n
 ·obtain ⟨c, hw, hb⟩ := hB
  obtain ⟨c0, l, a1, a2, a3, a4⟩ := hw.to_run
  refine ⟨⟨c0, l⟩, true, 0, fun h => (by cases h), fun _ => ⟨rfl, ⟨S.hz, hk, a1, a2, ?_⟩, (S.rdy a1).wide⟩, .inr ⟨hi, n, hn, ⟨h1, .inr (.inl ⟨hE, ⟨c, hw, hb⟩, rfl, rfl⟩)⟩, fun _ => a3⟩⟩
  show badB p q ((trs p c0 l).getD l.length cfg0)
  rw [a4]
  exact hb
 ·refine ⟨rn0, false, 4, fun _ => rfl, fun h => (by cases h), .inr ⟨hi, n, hn, ⟨h1, .inr (.inr ⟨hE, hB, ?_, rfl, rfl⟩)⟩, fun h => (by cases h)⟩⟩
  by_cases hF : FewAt p q s n
  ·right
   exact Classical.byContradiction fun hO => h2 ⟨hE, hB, hF, hO⟩
  ·exact .inl hF
theorem SmallestF (p : Pro) (q : Prp) (m : Int) (hp : ¬ bigP p) (hq : ¬ bigQ q) : PSpec Tryz.prog 7 [.agg (encP p), .agg (encQ q), .int .i64 m] (smU (SmA p q m)) := by
 refine PSpec.sm ?_
 have hC := checkMostF p q m 1 hp hq
 refine PSpec.intro tt_ok mx_ok Tryz.func7 rfl (by decide) ?_; (conv => whnf)
 refine boxP rfl ?_
 conv => whnf
 refine boxP rfl ?_
 conv => whnf
 (refine oP (hC) ?_; conv => whnf)
 refine cmpI ?_ ?_ <;> (intro h1; conv => whnf)
 ·exact ⟨.inr ⟨false, cmE p q m 1, rfl, fun _ => ⟨rfl, rfl, rfl, rfl⟩, fun h => absurd h h1⟩, rfl⟩
 have h0 : cmE p q m 1 = 0 := by omega
 obtain ⟨g1, g2, g3⟩ := cmE_ok h0
 have fin : ∀ {z r is e}, SmP p q (szL p m.toNat) z r is e → SmA p q m z r is e := fun hB => ⟨fun h => absurd h0 h, fun _ => hB⟩
 have hz : ∀ z ∈ szL p m.toNat, Sys p q z := fun z hz => ⟨hp, hq, szL_ok g1 (by omega) hz⟩
 (refine oP (sizesF p m hp (prop_val g1) g2) ?_; conv => whnf)
 have hZl := szL_len p m.toNat (by omega)
 have hZl : (szL p m.toNat).length ≤ 1000 := by omega
 generalize szL p m.toNat = Z at fin hz hZl ⊢
 refine WPc.loopF tt_ok mx_ok (fun k : Nat => k ≤ Z.length ∧ ∀ t r is e, SmP p q (Z.drop k) t r is e → SmP p q Z t r is e) (fun k => [(29, .int .i64 (k : Int))]) (fun _ => [(6, bxZ0), (7, bxR0)]) (fun k => Z.length - k) 0 ⟨Nat.zero_le _, fun t r is e h => h⟩ ?_; conv => whnf
 refine ⟨sI, ?_⟩
 rintro k ⟨hk, hup⟩
 conv => whnf
 refine cmpI ?_ ?_ <;> (intro h2; conv => whnf)
 ·have hlt : k < Z.length := by omega
  have hd := dropZ hlt
  rw [hd] at hup
  have S := hz _ (getD_memA siz0 hlt)
  refine nI ?_
  rw [tN]
  conv => whnf
  generalize Z.getD k siz0 = z at hup S ⊢
  refine Spec.of_pure (n := 5) (shortestF p q z S g3) rfl ?_
  rintro _ ⟨r, is, e, rfl, hB⟩
  by_cases he : e = 0
  case neg =>
   conv => whnf
   refine cmpT he ?_
   conv => whnf
   refine ⟨.inr ⟨false, e, rfl, fin (hup _ _ _ _ ?_)⟩, rfl⟩
   exact .err hB he
  subst he
  cases is with
  |true =>
   conv => whnf
   refine fI ?_
   conv => whnf
   refine drawX [(12, 12), (13, 13), (6, 6), (7, 7)] (by decide +kernel) ?_
   conv => whnf
   exact ⟨.inl ⟨z, r, true, 0, rfl, fin (hup _ _ _ _ (.yes hB))⟩, rfl⟩
  |false =>
   conv => whnf
   refine fI ?_
   conv => whnf
   repeat' ((first|refine nI ?_|refine aI ?_|refine tI ?_|refine fI ?_|fail);conv => whnf)
   exact ⟨k + 1, sI, ⟨by omega, fun t r' is e h => hup _ _ _ _ (.on hB h)⟩, by dsimp only; omega⟩
 ·refine ⟨.inr ⟨false, 0, rfl, fin (hup _ _ _ _ ?_)⟩, rfl⟩
  rw [List.drop_of_length_le (by omega)]
  exact .nil
theorem SmallestR (p : Pro) (q : Prp) (m : Int) (hp : ¬ bigP p) (hq : ¬ bigQ q) : PSpec Tryz.prog 8 [.agg (encP p), .agg (encQ q), .int .i64 m] (smU (SmA p q m)) := by
 refine PSpec.sm ?_
 have he := cmE.eq_1 p q m 1
 refine PSpec.intro tt_ok mx_ok Tryz.func8 rfl (by decide) ?_; (conv => whnf)
 refine boxP rfl ?_
 conv => whnf
 refine boxP rfl ?_
 conv => whnf
 (refine oP (propertyR p q (okP_of hp) (okQ_of hq)) ?_; conv => whnf)
 refine cmpI ?_ ?_ <;> (intro h1; conv => whnf)
 ·rw [if_pos h1] at he
  exact ⟨.inr ⟨false, propE p q, rfl, fun _ => ⟨rfl, rfl, rfl, he.symm⟩, fun h => by omega⟩, rfl⟩
 rw [if_neg h1] at he
 refine cmpI ?_ ?_ <;> (intro h2; conv => whnf)
 ·rw [if_pos h2] at he
  exact ⟨.inr ⟨false, 1, rfl, fun _ => ⟨rfl, rfl, rfl, he.symm⟩, fun h => by omega⟩, rfl⟩
 rw [if_neg h2] at he
 refine cmpI ?_ ?_ <;> (intro h3; conv => whnf)
 ·rw [if_pos h3] at he
  exact ⟨.inr ⟨false, 7, rfl, fun _ => ⟨rfl, rfl, rfl, he.symm⟩, fun h => by omega⟩, rfl⟩
 rw [if_neg h3] at he
 have g1 : propE p q = 0 := by omega
 have g3 : q.kind = 1 := by omega
 have fin : ∀ {z r is e}, SmP p q (szL p m.toNat) z r is e → SmA p q m z r is e := fun hB => ⟨fun h => absurd he h, fun _ => hB⟩
 have hz : ∀ z ∈ szL p m.toNat, Sys p q z := fun z hz => ⟨hp, hq, szL_ok g1 (by omega) hz⟩
 (refine oP (sizesR p m hp (prop_val g1) (by omega)) ?_; conv => whnf)
 have hZl := szL_len p m.toNat (by omega)
 have hZl : (szL p m.toNat).length ≤ 1000 := by omega
 generalize szL p m.toNat = Z at fin hz hZl ⊢
 refine WPc.loopF tt_ok mx_ok (fun k : Nat => k ≤ Z.length ∧ ∀ t r is e, SmP p q (Z.drop k) t r is e → SmP p q Z t r is e) (fun k => [(12, .int .i64 (k : Int))]) (fun _ => [(6, bxZ0), (7, bxR0)]) (fun k => Z.length - k) 0 ⟨Nat.zero_le _, fun t r is e h => h⟩ ?_; conv => whnf
 refine ⟨sI, ?_⟩
 rintro k ⟨hk, hup⟩
 conv => whnf
 refine cmpI ?_ ?_ <;> (intro h2; conv => whnf)
 ·have hlt : k < Z.length := by omega
  have hd := dropZ hlt
  rw [hd] at hup
  have S := hz _ (getD_memA siz0 hlt)
  refine dI ?_
  conv => whnf
  refine nI ?_
  rw [tN]
  conv => whnf
  generalize hzz : Z.getD k siz0 = z at hup S ⊢
  obtain ⟨r0, is0, e0, hB0⟩ := shB_ex S g3
  refine callPI 5 (ShortestR p q z hp hq) rfl ⟨_, r0, is0, e0, rfl, fun h => absurd S.hz h, fun _ h => absurd g3 h, fun _ _ => hB0⟩ ?_
  rintro _ ⟨r, is, e, rfl, hA⟩
  have hB := hA.ok S.hz g3
  by_cases he : e = 0
  case neg =>
   conv => whnf
   refine cmpT he ?_
   conv => whnf
   refine ⟨.inr ⟨false, e, rfl, fin (hup _ _ _ _ ?_)⟩, rfl⟩
   exact .err hB he
  subst he
  cases is with
  |true =>
   conv => whnf
   refine fI ?_
   conv => whnf
   refine drawX [(13, 13), (6, 6), (7, 7)] (by decide +kernel) ?_
   conv => whnf
   refine nI ?_
   rw [tN, hzz]
   conv => whnf
   exact ⟨.inl ⟨z, r, true, 0, rfl, fin (hup _ _ _ _ (.yes hB))⟩, rfl⟩
  |false =>
   conv => whnf
   refine fI ?_
   conv => whnf
   repeat' ((first|refine nI ?_|refine aI ?_|refine tI ?_|refine fI ?_|fail);conv => whnf)
   exact ⟨k + 1, sI, ⟨by omega, fun t r' is e h => hup _ _ _ _ (.on hB h)⟩, by dsimp only; omega⟩
 ·refine ⟨.inr ⟨false, 0, rfl, fin (hup _ _ _ _ ?_)⟩, rfl⟩
  rw [List.drop_of_length_le (by omega)]
  exact .nil
theorem lawSmallest (p : Pro) (q : Prp) (m : Int) : PSpec Tryz.prog 3 [.agg (encP p), .agg (encQ q), .int .i64 m] (fun u => u = .bool true) := by
 refine PSpec.intro tt_ok mx_ok Tryz.func3 rfl (by decide) ?_; (conv => whnf)
 refine boxP rfl ?_
 conv => whnf
 refine boxP rfl ?_
 conv => whnf
 refine dC (bigF p) (fun _ => ?_) (fun _ => ?_) <;> (conv => whnf)
 ·(refine oP (knownF) ?_; conv => whnf)
  exact ⟨rfl, rfl⟩
 rename_i hp
 refine dC (bigQF q) (fun _ => ?_) (fun _ => ?_) <;> (conv => whnf)
 ·(refine oP (knownF) ?_; conv => whnf)
  exact ⟨rfl, rfl⟩
 rename_i hq
 by_cases hm : 4 < m ∧ m ≤ 8
 ·refine cmpT hm.1 ?_
  conv => whnf
  refine cmpT hm.2 ?_
  conv => whnf
  (refine oP (knownF) ?_; conv => whnf)
  exact ⟨rfl, rfl⟩
 have H1 := SmallestF p q m hp hq
 have H2 := SmallestR p q m hp hq
 refine cmpI ?_ ?_ <;> (intro g1; conv => whnf)
 ·refine cmpF (fun h => hm ⟨g1, h⟩) ?_
  conv => whnf
  refine Spec.of_pure (n := 5) H1 rfl ?_
  rintro _ ⟨z, r, is, e, rfl, hA⟩
  conv => whnf
  refine Spec.of_pure (n := 5) H2 rfl ?_
  rintro _ ⟨z', r', is', e', rfl, hB⟩
  obtain ⟨e1, e2, e3⟩ := hA.one hB
  subst e1
  subst e2
  subst e3
  cases is with
  |false =>
   have h1 := hA.no
   subst h1
   conv => whnf
   refine cmpF (fun h => h rfl) ?_
   conv => whnf
   refine cmpF (fun h => h rfl) ?_
   conv => whnf
   refine Spec.call [] [] 400 rfl trivial (auto_) sameRunS ?_
   rintro u M rfl
   refine ⟨[], [], .bool true, rfl, trivial, rfl, ?_⟩
   conv => whnf
   (refine oP (knownF) ?_; conv => whnf)
   exact ⟨rfl, rfl⟩
  |true =>
   obtain ⟨h2, h3, h4⟩ := hA.yes
   have hV := IsViolationR p q z r hp hq h3 (by omega)
   rw [decide_eq_true h2] at hV
   conv => whnf
   refine cmpF (fun h => h rfl) ?_
   conv => whnf
   refine cmpF (fun h => h rfl) ?_
   conv => whnf
   (refine oP (hV) ?_; conv => whnf)
   (refine oP (knownF) ?_; conv => whnf)
   exact ⟨rfl, rfl⟩
 ·refine Spec.of_pure (n := 5) H1 rfl ?_
  rintro _ ⟨z, r, is, e, rfl, hA⟩
  conv => whnf
  refine Spec.of_pure (n := 5) H2 rfl ?_
  rintro _ ⟨z', r', is', e', rfl, hB⟩
  obtain ⟨e1, e2, e3⟩ := hA.one hB
  subst e1
  subst e2
  subst e3
  cases is with
  |false =>
   have h1 := hA.no
   subst h1
   conv => whnf
   refine cmpF (fun h => h rfl) ?_
   conv => whnf
   refine cmpF (fun h => h rfl) ?_
   conv => whnf
   refine Spec.call [] [] 400 rfl trivial (auto_) sameRunS ?_
   rintro u M rfl
   refine ⟨[], [], .bool true, rfl, trivial, rfl, ?_⟩
   conv => whnf
   (refine oP (knownF) ?_; conv => whnf)
   exact ⟨rfl, rfl⟩
  |true =>
   obtain ⟨h2, h3, h4⟩ := hA.yes
   have hV := IsViolationR p q z r hp hq h3 (by omega)
   rw [decide_eq_true h2] at hV
   conv => whnf
   refine cmpF (fun h => h rfl) ?_
   conv => whnf
   refine cmpF (fun h => h rfl) ?_
   conv => whnf
   (refine oP (hV) ?_; conv => whnf)
   (refine oP (knownF) ?_; conv => whnf)
   exact ⟨rfl, rfl⟩
end Go.Proofs.YtaeomngmcfdfpaaGreatDoor
