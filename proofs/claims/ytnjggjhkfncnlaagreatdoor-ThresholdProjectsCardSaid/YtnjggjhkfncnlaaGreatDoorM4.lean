import Derived.Test.YtnjggjhkfncnlaaGreatDoorM3
set_option linter.unusedVariables false
set_option linter.unusedSimpArgs false
namespace Go.Proofs.YtnjggjhkfncnlaaGreatDoor
set_option maxRecDepth 100000
set_option maxHeartbeats 4000000
theorem shpB_eq : ∀ (l : List Int) (n : Nat), shpB n l = decide (skipN n l = some [])
 | [], n=>by
  cases n with
  | zero=>rfl
  | succ n=>rw [skipN_nil]; simp [shpB]; omega
 | x :: xs, 0=>by rw [skipN_zero]; simp [shpB]
 | x :: xs, n + 1=>by
  rw [skipN_cons, shpB]
  by_cases h0 : x = 0
  ·subst h0
   rw [if_neg (by omega), if_neg (by omega), if_pos rfl]
   have:=shpB_eq xs n
   rw [← this]; congr 1 <;> omega
  ·by_cases h2 : x = 2
   ·subst h2
    rw [if_neg (by omega), if_neg (by omega), if_neg h0, if_pos rfl]
    have:=shpB_eq xs (n + 2)
    rw [← this]; congr 1 <;> omega
   ·rw [if_neg (by omega), if_pos ⟨h0, h2⟩, if_neg h0, if_neg h2]; simp
theorem isShapeD (l : List Int) (hl : l.length ≤ 1000) : PSpec Tryz.prog 154 [.sl 0 encI l] (fun u=>u = .bool (decide (shp l))):=by
 have:=isShapeF l hl
 rw [show shpB 1 l = decide (shp l) from shpB_eq l 1] at this
 exact this
def whL (p : Pro) : Int:=if p.fault = 1 ∨ p.fault = 2 then 1048576 else 0
structure VC (p : Pro) (s : Siz) (c : Cfg) : Prop where
 len : (c.states.length : Int) = modN p s
 sta : inR c.states p.states.length
 cor : c.correct = s.n - s.f
 snl : c.sent.length = p.messages.length
 sen : inR c.sent 1048577
 fal : c.faulty.length = p.messages.length
 fau : inR c.faulty (whL p + 1)
 va0 : 0 ≤ c.value
 va1 : c.value < 1 ∨ c.value < p.values.length
 tre : p.topology = 4 → (c.shape.length : Int) = s.n ∧ shp c.shape
 non : p.topology ≠ 4 → c.shape.length = 0
noncomputable instance decVC (p : Pro) (s : Siz) (c : Cfg) : Decidable (VC p s c):=Classical.propDecidable _
noncomputable def vcE (p : Pro) (s : Siz) (c : Cfg) : Int:=if VC p s c then 0 else 1
theorem endsL_ne {l : List Int} (h : shp l) : endsL l ≠ []:=by
 intro e
 have h1:=shp_pos h
 have h2 : (endsL l).length = l.length:=by simp [endsL]
 rw [e] at h2
 simp at h2
 omega
noncomputable def vconE (p : Pro) (s : Siz) (c : Cfg) : Int:=if sizeE p s ≠ 0 then sizeE p s else vcE p s c
theorem withinT (a b c : Int) : PSpec Tryz.prog 153 [.int .i64 a, .int .i64 b, .int .i64 c] (fun u=>u = .bool (decide (b ≤ a ∧ a ≤ c))):=by
 refine PSpec.intro tt_ok mx_ok Tryz.func153 rfl (by decide) ?_; (conv=>whnf)
 repeat' ((first|refine nI ?_|refine aI ?_|refine arU trivial (by omega) ?_|refine arB trivial (by omega) ?_|refine dI ?_|refine dR ?_|refine dP ?_|refine boxP rfl ?_|refine pI _ rfl ?_|refine rowSetI _ rfl ?_|refine tI ?_|refine fI ?_|refine cmpI (fun _=>?_) (fun _=>?_)) <;> conv=>whnf)
 all_goals first
  | exact ⟨dec_t (by omega), rfl⟩
  | exact ⟨dec_f (by omega), rfl⟩
theorem numbersR (l : List Int) (n : Int) (hl : l.length ≤ 1000) : PSpec Tryz.prog 151 [.sl 0 encI l, .int .i64 n] (fun u=>u = .bool (decide ((l.length : Int) = n ∧ inR l 1048577))):=by
 refine PSpec.intro tt_ok mx_ok Tryz.func151 rfl (by decide) ?_; (conv=>whnf)
 refine cmpI ?_ ?_ <;> (intro h0; conv=>whnf)
 ·exact ⟨dec_f (fun h=>h0 h.1), rfl⟩
 refine WPc.loopF tt_ok mx_ok (fun k : Nat=>k ≤ l.length ∧ ∀ j, j < k → 0 ≤ l.getD j 0 ∧ l.getD j 0 < 1048577) (fun k=>[(5, .int .i64 (k : Int))]) (fun _=>[]) (fun k=>l.length - k) 0 ⟨by omega, fun j hj=>by omega⟩ ?_; conv=>whnf
 refine ⟨sI, ?_⟩
 rintro k ⟨hk, ha⟩
 conv=>whnf
 refine cmpI ?_ ?_ <;> (intro h1; conv=>whnf)
 ·refine nI ?_
  rw [tN]
  conv=>whnf
  refine dC (withinT _ _ _) (fun _=>?_) (fun _=>?_) <;> (conv=>whnf)
  ·rename_i h2
   repeat' ((first|refine nI ?_|refine aI ?_|refine tI ?_|refine fI ?_|fail);conv=>whnf)
   refine ⟨k + 1, sI, ⟨by omega, fun j hj=>?_⟩, by dsimp only; omega⟩
   by_cases e : j = k
   ·subst e; omega
   ·exact ha j (by omega)
  ·rename_i h2
   exact ⟨dec_f (fun h=>h2 (by have:=h.2 k (by omega); omega)), rfl⟩
 ·exact ⟨dec_t ⟨by omega, fun j hj=>ha j (by omega)⟩, rfl⟩
theorem statesR (p : Pro) (l : List Int) (hl : l.length ≤ 1000) (hp : p.states.length ≤ 1000) : PSpec Tryz.prog 150 [.agg (encP p), .sl 0 encI l] (fun u=>u = .bool (decide (inR l p.states.length))):=by
 refine PSpec.intro tt_ok mx_ok Tryz.func150 rfl (by decide) ?_; (conv=>whnf)
 refine boxP rfl ?_
 conv=>whnf
 refine WPc.loopF tt_ok mx_ok (fun k : Nat=>k ≤ l.length ∧ ∀ j, j < k → 0 ≤ l.getD j 0 ∧ l.getD j 0 < p.states.length) (fun k=>[(5, .int .i64 (k : Int))]) (fun _=>[]) (fun k=>l.length - k) 0 ⟨by omega, fun j hj=>by omega⟩ ?_; conv=>whnf
 refine ⟨sI, ?_⟩
 rintro k ⟨hk, ha⟩
 conv=>whnf
 refine cmpI ?_ ?_ <;> (intro h1; conv=>whnf)
 ·refine dI ?_
  conv=>whnf
  refine nI ?_
  rw [tN]
  conv=>whnf
  repeat' ((first|refine nI ?_|refine aI ?_|refine tI ?_|refine fI ?_|fail);conv=>whnf)
  refine dD (withinT _ _ _) (fun _=>?_) (fun _=>?_) <;> (conv=>whnf)
  ·rename_i h2
   repeat' ((first|refine nI ?_|refine aI ?_|refine tI ?_|refine fI ?_|fail);conv=>whnf)
   refine ⟨k + 1, sI, ⟨by omega, fun j hj=>?_⟩, by dsimp only; omega⟩
   by_cases e : j = k
   ·subst e; omega
   ·exact ha j (by omega)
  ·rename_i h2
   exact ⟨dec_f (fun h=>h2 (by have:=h k (by omega); omega)), rfl⟩
 ·exact ⟨dec_t (fun j hj=>ha j (by omega)), rfl⟩
theorem looseR (p : Pro) : PSpec Tryz.prog 152 [.agg (encP p)] (fun u=>u = .bool (decide (p.fault = 1 ∨ p.fault = 2))):=by
 refine PSpec.intro tt_ok mx_ok Tryz.func152 rfl (by decide) ?_; (conv=>whnf)
 refine boxP rfl ?_
 conv=>whnf
 repeat' ((first|refine nI ?_|refine aI ?_|refine arU trivial (by omega) ?_|refine arB trivial (by omega) ?_|refine dI ?_|refine dR ?_|refine dP ?_|refine boxP rfl ?_|refine pI _ rfl ?_|refine rowSetI _ rfl ?_|refine tI ?_|refine fI ?_|refine cmpI (fun _=>?_) (fun _=>?_)) <;> conv=>whnf)
 all_goals first
  | exact ⟨dec_t (by omega), rfl⟩
  | exact ⟨dec_f (by omega), rfl⟩
theorem validConfigR (p : Pro) (s : Siz) (c : Cfg) (hp : ¬ bigP p) (hw : wideB c = false) (hs : 0 ≤ s.n ∧ s.n ≤ 1048576 ∧ 0 ≤ s.f ∧ s.f ≤ 1048576) : PSpec Tryz.prog 76 [.agg (encP p), .agg (encZ s), .agg (encC c)] (fun u=>u = .bool (decide (VC p s c))):=by
 have hle:=bigP_le hp
 have hc : c.shape.length ≤ 100 ∧ c.states.length ≤ 100 ∧ c.sent.length ≤ 100 ∧ c.faulty.length ≤ 100:=by
  unfold wideB at hw
  simp at hw
  omega
 have hwl : (whL p = 1048576 ∧ (p.fault = 1 ∨ p.fault = 2)) ∨ (whL p = 0 ∧ ¬ (p.fault = 1 ∨ p.fault = 2)):=by
  unfold whL
  by_cases h : p.fault = 1 ∨ p.fault = 2
  ·rw [if_pos h]; exact .inl ⟨rfl, h⟩
  ·rw [if_neg h]; exact .inr ⟨rfl, h⟩
 refine PSpec.intro tt_ok mx_ok Tryz.func76 rfl (by decide) ?_; (conv=>whnf)
 refine boxP rfl ?_
 conv=>whnf
 refine boxP rfl ?_
 conv=>whnf
 refine boxP rfl ?_
 conv=>whnf
 refine dI ?_
 conv=>whnf
 (refine oC (modeledR p s hs) ?_; conv=>whnf)
 refine cmpI ?_ ?_ <;> (intro h1; conv=>whnf)
 ·exact ⟨dec_f (fun h=>h1 h.len), rfl⟩
 refine dD (statesR p c.states (by omega) (by omega)) (fun _=>?_) (fun _=>?_) <;> (conv=>whnf)
 case refine_2=>rename_i h; exact ⟨dec_f (fun hh=>h hh.sta), rfl⟩
 rename_i h2
 repeat' ((first|refine nI ?_|refine aI ?_|refine tI ?_|refine fI ?_|fail);conv=>whnf)
 refine cmpI ?_ ?_ <;> (intro h3; conv=>whnf)
 ·exact ⟨dec_f (fun h=>h3 h.cor), rfl⟩
 refine dD (numbersR c.sent _ (by omega)) (fun _=>?_) (fun _=>?_) <;> (conv=>whnf)
 case refine_2=>rename_i h; exact ⟨dec_f (fun hh=>h ⟨by have:=hh.snl; omega, hh.sen⟩), rfl⟩
 rename_i h4
 refine dD (numbersR c.faulty _ (by omega)) (fun _=>?_) (fun _=>?_) <;> (conv=>whnf)
 case refine_2 =>
  rename_i h
  refine ⟨dec_f (fun hh=>h ⟨by have:=hh.fal; omega, fun j hj=>?_⟩), rfl⟩
  have:=hh.fau j hj
  omega
 rename_i h5
 refine WPc.loopF tt_ok mx_ok (fun k : Nat=>k ≤ c.faulty.length ∧ ∀ j, j < k → c.faulty.getD j 0 ≠ 0 → (p.fault = 1 ∨ p.fault = 2)) (fun k=>[(7, .int .i64 (k : Int))]) (fun _=>[]) (fun k=>c.faulty.length - k) 0 ⟨by omega, fun j hj=>by omega⟩ ?_; conv=>whnf
 refine ⟨sI, ?_⟩
 rintro k ⟨hk, ha⟩
 conv=>whnf
 refine cmpI ?_ ?_ <;> (intro h6; conv=>whnf)
 ·refine nI ?_
  rw [tN]
  conv=>whnf
  refine cmpI ?_ ?_ <;> (intro h7; conv=>whnf)
  ·refine dC (looseR p) (fun _=>?_) (fun _=>?_) <;> (conv=>whnf)
   ·rename_i h8
    repeat' ((first|refine nI ?_|refine aI ?_|refine tI ?_|refine fI ?_|fail);conv=>whnf)
    exact ⟨k + 1, sI, ⟨by omega, fun j hj _=>h8⟩, by dsimp only; omega⟩
   ·rename_i h8
    refine ⟨dec_f (fun hh=>?_), rfl⟩
    have h9:=hh.fau k (by omega)
    omega
  ·repeat' ((first|refine nI ?_|refine aI ?_|refine tI ?_|refine fI ?_|fail);conv=>whnf)
   refine ⟨k + 1, sI, ⟨by omega, fun j hj h8=>?_⟩, by dsimp only; omega⟩
   by_cases e : j = k
   ·subst e; exact absurd h8 h7
   ·exact ha j (by omega) h8
 have hfau : inR c.faulty (whL p + 1):=fun j hj=>by
  have a1:=h5.2 j hj
  have a2:=ha j (by omega)
  omega
 repeat' ((first|refine nI ?_|refine aI ?_|refine tI ?_|refine fI ?_|fail);conv=>whnf)
 refine dC (withinT _ _ _) (fun _=>?_) (fun _=>?_) <;> (conv=>whnf)
 case refine_2 =>
  rename_i h
  refine ⟨dec_f (fun hh=>h ⟨hh.va0, ?_⟩), rfl⟩
  have:=hh.va1
  split <;> omega
 rename_i h9
 have hva1 : c.value < 1 ∨ c.value < p.values.length:=by
  have:=h9.2
  split at this <;> omega
 refine cmpI ?_ ?_ <;> (intro ht; conv=>whnf)
 ·refine cmpI ?_ ?_ <;> (intro h10; conv=>whnf)
  ·refine dC (isShapeD c.shape (by omega)) (fun _=>?_) (fun _=>?_) <;> (conv=>whnf)
   ·rename_i hsh
    exact ⟨dec_t ⟨by omega, h2, by omega, by omega, h4.2, by omega, hfau, h9.1, hva1, fun _=>⟨h10, hsh⟩, fun h=>absurd ht h⟩, rfl⟩
   ·rename_i hsh
    exact ⟨dec_f (fun h=>hsh (h.tre ht).2), rfl⟩
  ·exact ⟨dec_f (fun h=>h10 (h.tre ht).1), rfl⟩
 ·refine cmpI ?_ ?_ <;> (intro h10; conv=>whnf)
  ·exact ⟨dec_t ⟨by omega, h2, by omega, by omega, h4.2, by omega, hfau, h9.1, hva1, fun h=>absurd h ht, fun _=>by omega⟩, rfl⟩
  ·exact ⟨dec_f (fun h=>h10 (by have:=h.non ht; omega)), rfl⟩
theorem ValidConfigR (p : Pro) (s : Siz) (c : Cfg) (hp : ¬ bigP p) (hw : wideB c = false) : PSpec Tryz.prog 189 [.agg (encP p), .agg (encZ s), .agg (encC c)] (fun u=>u = .int .i64 (vconE p s c)):=by
 refine PSpec.intro tt_ok mx_ok Tryz.func189 rfl (by decide) ?_; (conv=>whnf)
 refine boxP rfl ?_
 conv=>whnf
 refine boxP rfl ?_
 conv=>whnf
 refine boxP rfl ?_
 conv=>whnf
 (refine oP (sizedR p s hp) ?_; conv=>whnf)
 refine cmpI ?_ ?_ <;> (intro h1; conv=>whnf)
 ·exact ⟨av_int (by rw [vconE, if_pos h1]), rfl⟩
 ·have:=sizeE_ok (p:=p) (s:=s) (by omega)
  refine dC (validConfigR p s c hp hw (by omega)) (fun _=>?_) (fun _=>?_) <;> (conv=>whnf)
  ·rename_i h; exact ⟨av_int (by rw [vconE, if_neg h1, vcE, if_pos h]), rfl⟩
  ·rename_i h; exact ⟨av_int (by rw [vconE, if_neg h1, vcE, if_neg h]), rfl⟩
theorem copyIntsR (l : List Int) (hl : l.length ≤ 1000000) : PSpec Tryz.prog 210 [.sl 0 encI l] (fun u=>u = .sl 0 encI l):=by
 refine PSpec.intro tt_ok mx_ok Tryz.func210 rfl (by decide) ?_; (conv=>whnf)
 refine bldI 0 encI [] rfl ?_
 conv=>whnf
 refine appI _ rfl (by simp only [List.length_nil]; omega) ?_
 conv=>whnf
 exact ⟨rfl, rfl⟩
theorem copyR (c : Cfg) (hw : wideB c = false) : PSpec Tryz.prog 155 [.agg (encC c)] (fun u=>u = .agg (encC c)):=by
 have hc : c.shape.length ≤ 100 ∧ c.states.length ≤ 100 ∧ c.sent.length ≤ 100 ∧ c.faulty.length ≤ 100:=by
  unfold wideB at hw
  simp at hw
  omega
 refine PSpec.intro tt_ok mx_ok Tryz.func155 rfl (by decide) ?_; (conv=>whnf)
 refine boxP rfl ?_
 conv=>whnf
 refine dP ?_
 conv=>whnf
 (refine oC (copyIntsR c.shape (by omega)) ?_; conv=>whnf)
 (refine oC (copyIntsR c.states (by omega)) ?_; conv=>whnf)
 (refine oC (copyIntsR c.sent (by omega)) ?_; conv=>whnf)
 (refine oC (copyIntsR c.faulty (by omega)) ?_; conv=>whnf)
 exact ⟨rfl, rfl⟩
def intsS (r : Sh) : Sh:=.sl (.int .nil) r
def linS : Sh:=.int (.int (.int (.int .nil)))
def thrS : Sh:=.int (.int (.int (.int (.int (.int .nil)))))
def rulS : Sh:=.str (.int (.int (.int (.int (.int (intsS (.sl thrS (intsS (intsS (.int (.int (intsS (.int (intsS (intsS (intsS (.int .nil)))))))))))))))))
def sizS : Sh:=.int (.int (.int .nil))
theorem shSiz : shOf Tryz.prog 9 34 = some sizS:=by kernel_rfl
def nums (l : List (Den (.int .nil))) : List Int:=l.map (fun x=>x.1)
def txts (l : List (Den (.str .nil))) : List ByteArray:=l.map (fun x=>x.1)
def linOf : Den linS → Lin
 | (a, b, c, d, _)=>⟨a, b, c, d⟩
def thrOf : Den thrS → Thr
 | (a, b, c, d, e, f, _)=>⟨a, b, ⟨c, d, e, f⟩⟩
def rulOf : Den rulS → Rul
 | (a, b, c, d, e, f, g, h, i, j, k, l, m, n, o, p, q, r, _)=>⟨a, b, c, d, e, f, nums g, List.map thrOf h, nums i, nums j, k, l, nums m, n, nums o, nums p, nums q, r⟩
section
variable {S : Store}
theorem cv_lin (y : Den linS) : CvL S (encS linS y) (encLin (linOf y)):=by
 obtain ⟨a, b, c, d, ⟨⟩⟩:=y
 exact ⟨Cv.refl _ _, Cv.refl _ _, Cv.refl _ _, Cv.refl _ _, trivial⟩
theorem cv_thr (y : Den thrS) : CvL S (encS thrS y) (encThr (thrOf y)):=by
 obtain ⟨a, b, c, d, e, f, ⟨⟩⟩:=y
 exact ⟨Cv.refl _ _, Cv.refl _ _, Cv.refl _ _, Cv.refl _ _, Cv.refl _ _, Cv.refl _ _, trivial⟩
theorem cv_lins (l : List (Den linS)) : Cv S (.sl (dflt linS) (encS linS) l) (.sl lin0 encLin (l.map linOf)) :=
 Cv.sl (d:=dflt linS) (enc:=encS linS) lin0 encLin linOf fun y _=>⟨cv_lin y, rfl⟩
theorem cv_thrs (l : List (Den thrS)) : Cv S (.sl (dflt thrS) (encS thrS) l) (.sl thr0 encThr (l.map thrOf)) :=
 Cv.sl (d:=dflt thrS) (enc:=encS thrS) thr0 encThr thrOf fun y _=>⟨cv_thr y, rfl⟩
theorem cv_rul (y : Den rulS) : CvL S (encS rulS y) (encR (rulOf y)):=by
 obtain ⟨a, b, c, d, e, f, g, h, i, j, k, l, m, n, o, p, q, r, ⟨⟩⟩:=y
 exact ⟨Cv.refl _ _, Cv.refl _ _, Cv.refl _ _, Cv.refl _ _, Cv.refl _ _, Cv.refl _ _, Cv.ints g, cv_thrs h, Cv.ints i, Cv.ints j, Cv.refl _ _, Cv.refl _ _, Cv.ints m, Cv.refl _ _, Cv.ints o, Cv.ints p, Cv.ints q, Cv.refl _ _, trivial⟩
theorem cv_ruls (l : List (Den rulS)) : Cv S (.sl (dflt rulS) (encS rulS) l) (.sl rul0 encR (l.map rulOf)) :=
 Cv.sl (d:=dflt rulS) (enc:=encS rulS) rul0 encR rulOf fun y _=>⟨cv_rul y, rfl⟩
def sizOf : Den sizS → Siz
 | (a, b, c, _)=>⟨a, b, c⟩
theorem cv_siz (y : Den sizS) : CvL S (encS sizS y) (encZ (sizOf y)):=by
 obtain ⟨a, b, c, ⟨⟩⟩:=y
 exact ⟨Cv.refl _ _, Cv.refl _ _, Cv.refl _ _, trivial⟩
end
end Go.Proofs.YtnjggjhkfncnlaaGreatDoor
