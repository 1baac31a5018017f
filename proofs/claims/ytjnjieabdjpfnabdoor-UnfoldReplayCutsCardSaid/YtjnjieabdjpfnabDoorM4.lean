import Derived.Test.YtjnjieabdjpfnabDoorM3
set_option linter.unusedVariables false
set_option linter.unusedSimpArgs false
namespace Go.Proofs.YtjnjieabdjpfnabDoor
set_option maxRecDepth 100000
set_option maxHeartbeats 4000000
def whL (p : Pro) : Int := if p.fault = 1 ∨ p.fault = 2 then 1048576 else 0
structure VC (p : Pro) (s : Siz) (c : Cfg) : Prop where
 len : (c.states.length : Int) = modN p s
 sta : inR c.states p.states.length
 cor : c.correct = s.n - s.f
 snl : c.sent.length = p.messages.length
 sen : inR c.sent 1048577
 fal : c.faulty.length = p.messages.length
 fau : inR c.faulty (whL p + 1)
 va0 : 0 ≤ c.value
 va1 : c.value < 1 ∨ c.value < p.values.length
 tre : p.topology = 4 → (c.shape.length : Int) = s.n ∧ shp c.shape
 non : p.topology ≠ 4 → c.shape.length = 0
noncomputable instance decVC (p : Pro) (s : Siz) (c : Cfg) : Decidable (VC p s c) := Classical.propDecidable _
noncomputable def vcE (p : Pro) (s : Siz) (c : Cfg) : Int := if VC p s c then 0 else 1
theorem inClosF (l : List Int) (m : Int) (hl : l.length ≤ 1000) : PSpec Tryd.prog 52 [.sl 0 encI l, .int .i64 m] (fun u => u = .bool (decide (inR l (m + 1)))) := by
 refine PSpec.intro tt_ok mx_ok Tryd.func52 rfl (by decide) ?_; (conv => whnf)
 refine WPc.loopF tt_ok mx_ok (fun k : Nat => k ≤ l.length ∧ ∀ j, j < k → 0 ≤ l.getD j 0 ∧ l.getD j 0 < m + 1) (fun k => [(9, .int .i64 (k : Int))]) (fun _ => []) (fun k => l.length - k) 0 ⟨by omega, fun j hj => by omega⟩ ?_; conv => whnf
 refine ⟨sI, ?_⟩
 rintro k ⟨hk, ha⟩
 conv => whnf
 refine cmpI ?_ ?_ <;> (intro h1; conv => whnf)
 ·refine nI ?_
  rw [tN]
  by_cases h2 : 0 ≤ l.getD k 0 ∧ l.getD k 0 < m + 1
  ·conv => whnf
   repeat' ((first|refine nI ?_|refine aI ?_|refine tI ?_|refine fI ?_|fail);conv => whnf)
   refine ⟨k + 1, sI, ⟨by omega, fun j hj => ?_⟩, by dsimp only; omega⟩
   by_cases e : j = k
   ·subst e; omega
   ·exact ha j (by omega)
  ·conv => whnf
   repeat' ((first|refine nI ?_|refine aI ?_|refine arU trivial (by omega) ?_|refine arB trivial (by omega) ?_|refine dI ?_|refine dR ?_|refine dP ?_|refine boxP rfl ?_|refine pI _ rfl ?_|refine rowSetI _ rfl ?_|refine tI ?_|refine fI ?_|refine cmpI (fun _ => ?_) (fun _ => ?_)) <;> conv => whnf)
   all_goals exact ⟨dec_f (fun h => h2 (h k (by omega))), rfl⟩
 ·exact ⟨dec_t (fun j hj => ha j (by omega)), rfl⟩
theorem endsL_ne {l : List Int} (h : shp l) : endsL l ≠ [] := by
 intro e
 have h1 := shp_pos h
 have h2 : (endsL l).length = l.length := by simp [endsL]
 rw [e] at h2
 simp at h2
 omega
theorem validConfigF (p : Pro) (s : Siz) (c : Cfg) (hp : ¬ bigP p) (hw : wideB c = false) (hs : 0 ≤ s.n ∧ s.n ≤ 1048576 ∧ 0 ≤ s.f ∧ s.f ≤ 1048576) : PSpec Tryd.prog 35 [.agg (encP p), .agg (encZ s), .agg (encC c)] (fun u => u = .int .i64 (vcE p s c)) := by
 have hle := bigP_le hp
 have hc : c.shape.length ≤ 100 ∧ c.states.length ≤ 100 ∧ c.sent.length ≤ 100 ∧ c.faulty.length ≤ 100 := by
  unfold wideB at hw
  simp at hw
  omega
 have bad : ¬ VC p s c → vcE p s c = 1 := fun h => by rw [vcE, if_neg h]
 refine PSpec.intro tt_ok mx_ok Tryd.func35 rfl (by decide) ?_; (conv => whnf)
 refine boxP rfl ?_
 conv => whnf
 refine boxP rfl ?_
 conv => whnf
 refine boxP rfl ?_
 conv => whnf
 have hwl : (whL p = 1048576 ∧ (p.fault = 1 ∨ p.fault = 2)) ∨ (whL p = 0 ∧ ¬ (p.fault = 1 ∨ p.fault = 2)) := by
  unfold whL
  by_cases h : p.fault = 1 ∨ p.fault = 2
  ·rw [if_pos h]; exact .inl ⟨rfl, h⟩
  ·rw [if_neg h]; exact .inr ⟨rfl, h⟩
 have ht4 : p.topology = 4 ∨ p.topology ≠ 4 := by omega
 rcases ht4 with ht | ht <;> rcases hwl with ⟨hwl, hfa⟩ | ⟨hwl, hfa⟩
 all_goals
  repeat' (first | (refine tI ?_; conv => whnf) | (refine fI ?_; conv => whnf) | (refine cmpI ?_ ?_ <;> (intro _; conv => whnf)))
 all_goals
  refine dI ?_
  conv => whnf
  (refine oC (modeledF p s hs) ?_; conv => whnf)
  refine cmpI ?_ ?_ <;> (intro h1; conv => whnf)
  case refine_2 =>
   repeat' ((first|refine nI ?_|refine aI ?_|refine tI ?_|refine fI ?_|fail);conv => whnf)
   exact ⟨av_int (bad (fun h => h1 h.len)).symm, rfl⟩
  repeat' ((first|refine nI ?_|refine aI ?_|refine tI ?_|refine fI ?_|fail);conv => whnf)
  refine dD (inClosF c.states _ (by omega)) (fun _ => ?_) (fun _ => ?_) <;> (conv => whnf)
  case refine_2 =>
   rename_i h
   repeat' ((first|refine nI ?_|refine aI ?_|refine tI ?_|refine fI ?_|fail);conv => whnf)
   exact ⟨av_int (bad (fun hh => h (by have := hh.sta; rwa [show (p.states.length : Int) - 1 + 1 = p.states.length by omega]))).symm, rfl⟩
  rename_i h2
  rw [show (p.states.length : Int) - 1 + 1 = p.states.length by omega] at h2
  repeat' ((first|refine nI ?_|refine aI ?_|refine tI ?_|refine fI ?_|fail);conv => whnf)
  refine cmpI ?_ ?_ <;> (intro h3; conv => whnf)
  case refine_2 =>
   repeat' ((first|refine nI ?_|refine aI ?_|refine tI ?_|refine fI ?_|fail);conv => whnf)
   exact ⟨av_int (bad (fun h => h3 h.cor)).symm, rfl⟩
  refine cmpI ?_ ?_ <;> (intro h4; conv => whnf)
  case refine_2 =>
   repeat' ((first|refine nI ?_|refine aI ?_|refine tI ?_|refine fI ?_|fail);conv => whnf)
   exact ⟨av_int (bad (fun h => h4 (by have := h.snl; omega))).symm, rfl⟩
  refine dD (inClosF c.sent _ (by omega)) (fun _ => ?_) (fun _ => ?_) <;> (conv => whnf)
  case refine_2 =>
   rename_i h
   repeat' ((first|refine nI ?_|refine aI ?_|refine tI ?_|refine fI ?_|fail);conv => whnf)
   exact ⟨av_int (bad (fun hh => h hh.sen)).symm, rfl⟩
  rename_i h5
  refine cmpI ?_ ?_ <;> (intro h6; conv => whnf)
  case refine_2 =>
   repeat' ((first|refine nI ?_|refine aI ?_|refine tI ?_|refine fI ?_|fail);conv => whnf)
   exact ⟨av_int (bad (fun h => h6 (by have := h.fal; omega))).symm, rfl⟩
  refine dD (inClosF c.faulty _ (by omega)) (fun _ => ?_) (fun _ => ?_) <;> (conv => whnf)
  case refine_2 =>
   rename_i h
   repeat' ((first|refine nI ?_|refine aI ?_|refine tI ?_|refine fI ?_|fail);conv => whnf)
   exact ⟨av_int (bad (fun hh => h (by have := hh.fau; rwa [hwl] at this))).symm, rfl⟩
  rename_i h7
  refine cmpI ?_ ?_ <;> (intro h8; conv => whnf)
  case refine_2 =>
   repeat' ((first|refine nI ?_|refine aI ?_|refine tI ?_|refine fI ?_|fail);conv => whnf)
   exact ⟨av_int (bad (fun h => h8 h.va0)).symm, rfl⟩
  refine cmpI ?_ ?_ <;> (intro h9; conv => whnf)
  case refine_2 =>
   repeat' ((first|refine nI ?_|refine aI ?_|refine tI ?_|refine fI ?_|fail);conv => whnf)
   exact ⟨av_int (bad (fun h => h9 (by have := h.va1; split <;> omega))).symm, rfl⟩
  have hva1 : c.value < 1 ∨ c.value < p.values.length := by split at h9 <;> omega
  repeat' ((first|refine nI ?_|refine aI ?_|refine tI ?_|refine fI ?_|fail);conv => whnf)
  refine cmpI ?_ ?_ <;> (intro h10; conv => whnf)
 all_goals try first
  | exact ⟨av_int (bad (fun h => by have := h.tre ht; omega)).symm, rfl⟩
  | exact ⟨av_int (bad (fun h => by have := h.non ht; omega)).symm, rfl⟩
  | exact ⟨av_int (by rw [vcE, if_pos ⟨h1, h2, h3, by omega, h5, by omega, by rw [hwl]; exact h7, h8, hva1, fun h => absurd h ht, fun _ => by omega⟩]), rfl⟩
  | skip
 all_goals
  have hE := endsF c.shape (by omega)
  by_cases hsh : shp c.shape
  ·rw [if_pos hsh] at hE
   (refine oP (hE) ?_; conv => whnf)
   refine needI (endsL_ne hsh) ?_
   conv => whnf
   exact ⟨av_int (by rw [vcE, if_pos ⟨h1, h2, h3, by omega, h5, by omega, by rw [hwl]; exact h7, h8, hva1, fun _ => ⟨h10, hsh⟩, fun h => absurd ht h⟩]), rfl⟩
  ·rw [if_neg hsh] at hE
   (refine oP (hE) ?_; conv => whnf)
   exact ⟨av_int (bad (fun h => hsh (h.tre ht).2)).symm, rfl⟩
noncomputable def vconE (p : Pro) (s : Siz) (c : Cfg) : Int := if sizeE p s ≠ 0 then sizeE p s else vcE p s c
theorem ValidConfigF (p : Pro) (s : Siz) (c : Cfg) (hp : ¬ bigP p) (hw : wideB c = false) : PSpec Tryd.prog 15 [.agg (encP p), .agg (encZ s), .agg (encC c)] (fun u => u = .int .i64 (vconE p s c)) := by
 refine PSpec.intro tt_ok mx_ok Tryd.func15 rfl (by decide) ?_; (conv => whnf)
 refine boxP rfl ?_
 conv => whnf
 refine boxP rfl ?_
 conv => whnf
 refine boxP rfl ?_
 conv => whnf
 (refine oP (checkSizeF p s hp) ?_; conv => whnf)
 refine cmpI ?_ ?_ <;> (intro h1; conv => whnf)
 ·exact ⟨av_int (by rw [vconE, if_pos h1]), rfl⟩
 ·have := sizeE_ok (p := p) (s := s) (by omega)
  (refine oP (validConfigF p s c hp hw (by omega)) ?_; conv => whnf)
  exact ⟨av_int (by rw [vconE, if_neg h1]), rfl⟩
def encAt (p : Pro) (s : Siz) (c : Cfg) : List AV := encP p ++ (encZ s ++ encC c)
def intsS (r : Sh) : Sh := .sl (.int .nil) r
def linS : Sh := .int (.int (.int (.int .nil)))
def thrS : Sh := .int (.int (.int (.int (.int (.int .nil)))))
def rulS : Sh := .str (.int (.int (.int (.int (.int (intsS (.sl thrS (intsS (intsS (.int (.int (intsS (.int (intsS (intsS (intsS (.int .nil)))))))))))))))))
def proS : Sh := .str (.int (.sl (.str .nil) (.sl (.str .nil) (.sl (.str .nil) (.int (.sl linS (intsS (intsS (.sl rulS .nil)))))))))
def sizS : Sh := .int (.int (.int .nil))
theorem shPro : shOf Tryd.prog 9 27 = some proS := by kernel_rfl
theorem shSiz : shOf Tryd.prog 9 29 = some sizS := by kernel_rfl
def nums (l : List (Den (.int .nil))) : List Int := l.map (fun x => x.1)
def txts (l : List (Den (.str .nil))) : List ByteArray := l.map (fun x => x.1)
def linOf : Den linS → Lin
 | (a, b, c, d, _) => ⟨a, b, c, d⟩
def thrOf : Den thrS → Thr
 | (a, b, c, d, e, f, _) => ⟨a, b, ⟨c, d, e, f⟩⟩
def rulOf : Den rulS → Rul
 | (a, b, c, d, e, f, g, h, i, j, k, l, m, n, o, p, q, r, _) => ⟨a, b, c, d, e, f, nums g, List.map thrOf h, nums i, nums j, k, l, nums m, n, nums o, nums p, nums q, r⟩
section
variable {S : Store}
theorem cv_lin (y : Den linS) : CvL S (encS linS y) (encLin (linOf y)) := by
 obtain ⟨a, b, c, d, ⟨⟩⟩ := y
 exact ⟨Cv.refl _ _, Cv.refl _ _, Cv.refl _ _, Cv.refl _ _, trivial⟩
theorem cv_thr (y : Den thrS) : CvL S (encS thrS y) (encThr (thrOf y)) := by
 obtain ⟨a, b, c, d, e, f, ⟨⟩⟩ := y
 exact ⟨Cv.refl _ _, Cv.refl _ _, Cv.refl _ _, Cv.refl _ _, Cv.refl _ _, Cv.refl _ _, trivial⟩
theorem cv_lins (l : List (Den linS)) : Cv S (.sl (dflt linS) (encS linS) l) (.sl lin0 encLin (l.map linOf)) :=
 Cv.sl (d := dflt linS) (enc := encS linS) lin0 encLin linOf fun y _ => ⟨cv_lin y, rfl⟩
theorem cv_thrs (l : List (Den thrS)) : Cv S (.sl (dflt thrS) (encS thrS) l) (.sl thr0 encThr (l.map thrOf)) :=
 Cv.sl (d := dflt thrS) (enc := encS thrS) thr0 encThr thrOf fun y _ => ⟨cv_thr y, rfl⟩
theorem cv_rul (y : Den rulS) : CvL S (encS rulS y) (encR (rulOf y)) := by
 obtain ⟨a, b, c, d, e, f, g, h, i, j, k, l, m, n, o, p, q, r, ⟨⟩⟩ := y
 exact ⟨Cv.refl _ _, Cv.refl _ _, Cv.refl _ _, Cv.refl _ _, Cv.refl _ _, Cv.refl _ _, Cv.ints g, cv_thrs h, Cv.ints i, Cv.ints j, Cv.refl _ _, Cv.refl _ _, Cv.ints m, Cv.refl _ _, Cv.ints o, Cv.ints p, Cv.ints q, Cv.refl _ _, trivial⟩
theorem cv_ruls (l : List (Den rulS)) : Cv S (.sl (dflt rulS) (encS rulS) l) (.sl rul0 encR (l.map rulOf)) :=
 Cv.sl (d := dflt rulS) (enc := encS rulS) rul0 encR rulOf fun y _ => ⟨cv_rul y, rfl⟩
def proOf : Den proS → Pro
 | (a, b, c, d, e, f, g, h, i, j, _) => ⟨a, b, txts c, txts d, txts e, f, List.map linOf g, nums h, nums i, List.map rulOf j⟩
theorem cv_pro (y : Den proS) : CvL S (encS proS y) (encP (proOf y)) := by
 obtain ⟨a, b, c, d, e, f, g, h, i, j, ⟨⟩⟩ := y
 exact ⟨Cv.refl _ _, Cv.refl _ _, Cv.strs c, Cv.strs d, Cv.strs e, Cv.refl _ _, cv_lins g, Cv.ints h, Cv.ints i, cv_ruls j, trivial⟩
def sizOf : Den sizS → Siz
 | (a, b, c, _) => ⟨a, b, c⟩
theorem cv_siz (y : Den sizS) : CvL S (encS sizS y) (encZ (sizOf y)) := by
 obtain ⟨a, b, c, ⟨⟩⟩ := y
 exact ⟨Cv.refl _ _, Cv.refl _ _, Cv.refl _ _, trivial⟩
end
end Go.Proofs.YtjnjieabdjpfnabDoor
