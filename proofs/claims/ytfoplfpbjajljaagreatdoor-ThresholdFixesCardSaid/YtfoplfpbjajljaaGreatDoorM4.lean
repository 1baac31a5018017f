import Derived.Test.YtfoplfpbjajljaaGreatDoorM3
set_option linter.unusedVariables false
set_option linter.unusedSimpArgs false
namespace Go.Proofs.YtfoplfpbjajljaaGreatDoor
set_option maxRecDepth 100000
set_option maxHeartbeats 4000000
def whL (p : Pro) : Int := if p.fault = 1 ∨ p.fault = 2 then 1048576 else 0
structure VC (p : Pro) (s : Siz) (c : Cfg) : Prop where
 len : (c.states.length : Int) = modN p s
 sta : inR c.states p.states.length
 cor : c.correct = s.n - s.f
 snl : c.sent.length = p.messages.length
 sen : inR c.sent 1048577
 fal : c.faulty.length = p.messages.length
 fau : inR c.faulty (whL p + 1)
 va0 : 0 ≤ c.value
 va1 : c.value < 1 ∨ c.value < p.values.length
 tre : p.topology = 4 → (c.shape.length : Int) = s.n ∧ shp c.shape
 non : p.topology ≠ 4 → c.shape.length = 0
noncomputable instance decVC (p : Pro) (s : Siz) (c : Cfg) : Decidable (VC p s c) := Classical.propDecidable _
def intsS (r : Sh) : Sh := .sl (.int .nil) r
def linS : Sh := .int (.int (.int (.int .nil)))
def thrS : Sh := .int (.int (.int (.int (.int (.int .nil)))))
def rulS : Sh := .str (.int (.int (.int (.int (.int (intsS (.sl thrS (intsS (intsS (.int (.int (intsS (.int (intsS (intsS (intsS (.int .nil)))))))))))))))))
def sizS : Sh := .int (.int (.int .nil))
theorem shSiz : shOf Tryz.prog 9 65 = some sizS := by kernel_rfl
def nums (l : List (Den (.int .nil))) : List Int := l.map (fun x => x.1)
def txts (l : List (Den (.str .nil))) : List ByteArray := l.map (fun x => x.1)
def linOf : Den linS → Lin
 | (a, b, c, d, _) => ⟨a, b, c, d⟩
def thrOf : Den thrS → Thr
 | (a, b, c, d, e, f, _) => ⟨a, b, ⟨c, d, e, f⟩⟩
def rulOf : Den rulS → Rul
 | (a, b, c, d, e, f, g, h, i, j, k, l, m, n, o, p, q, r, _) => ⟨a, b, c, d, e, f, nums g, List.map thrOf h, nums i, nums j, k, l, nums m, n, nums o, nums p, nums q, r⟩
section
variable {S : Store}
theorem cv_lin (y : Den linS) : CvL S (encS linS y) (encLin (linOf y)) := by
 obtain ⟨a, b, c, d, ⟨⟩⟩ := y
 exact ⟨Cv.refl _ _, Cv.refl _ _, Cv.refl _ _, Cv.refl _ _, trivial⟩
theorem cv_thr (y : Den thrS) : CvL S (encS thrS y) (encThr (thrOf y)) := by
 obtain ⟨a, b, c, d, e, f, ⟨⟩⟩ := y
 exact ⟨Cv.refl _ _, Cv.refl _ _, Cv.refl _ _, Cv.refl _ _, Cv.refl _ _, Cv.refl _ _, trivial⟩
theorem cv_lins (l : List (Den linS)) : Cv S (.sl (dflt linS) (encS linS) l) (.sl lin0 encLin (l.map linOf)) :=
 Cv.sl (d := dflt linS) (enc := encS linS) lin0 encLin linOf fun y _ => ⟨cv_lin y, rfl⟩
theorem cv_thrs (l : List (Den thrS)) : Cv S (.sl (dflt thrS) (encS thrS) l) (.sl thr0 encThr (l.map thrOf)) :=
 Cv.sl (d := dflt thrS) (enc := encS thrS) thr0 encThr thrOf fun y _ => ⟨cv_thr y, rfl⟩
theorem cv_rul (y : Den rulS) : CvL S (encS rulS y) (encR (rulOf y)) := by
 obtain ⟨a, b, c, d, e, f, g, h, i, j, k, l, m, n, o, p, q, r, ⟨⟩⟩ := y
 exact ⟨Cv.refl _ _, Cv.refl _ _, Cv.refl _ _, Cv.refl _ _, Cv.refl _ _, Cv.refl _ _, Cv.ints g, cv_thrs h, Cv.ints i, Cv.ints j, Cv.refl _ _, Cv.refl _ _, Cv.ints m, Cv.refl _ _, Cv.ints o, Cv.ints p, Cv.ints q, Cv.refl _ _, trivial⟩
theorem cv_ruls (l : List (Den rulS)) : Cv S (.sl (dflt rulS) (encS rulS) l) (.sl rul0 encR (l.map rulOf)) :=
 Cv.sl (d := dflt rulS) (enc := encS rulS) rul0 encR rulOf fun y _ => ⟨cv_rul y, rfl⟩
def sizOf : Den sizS → Siz
 | (a, b, c, _) => ⟨a, b, c⟩
theorem cv_siz (y : Den sizS) : CvL S (encS sizS y) (encZ (sizOf y)) := by
 obtain ⟨a, b, c, ⟨⟩⟩ := y
 exact ⟨Cv.refl _ _, Cv.refl _ _, Cv.refl _ _, trivial⟩
end
end Go.Proofs.YtfoplfpbjajljaaGreatDoor
