
/-
  Reading a system, a refutation and a point, with their sizes.
-/
import Derived.Test.YtgjmbmdaaahmkaaRdZ
import Derived.Test.YtgjmbmdaaahmkaaFxW
set_option linter.unusedVariables false
set_option linter.unusedSimpArgs false
namespace Go.Proofs.Ytgjmbmdaaahmkaa

def nmSh : Sh := .int .nil
def rowSh : Sh := .sl (.int .nil) (.int .nil)
def sysSh : Sh := .int (.sl rowSh .nil)
def derSh : Sh := .sl (.int .nil) (.sl (.int .nil) (.int .nil))
def nodSh : Sh := .sl derSh (.int (.int (.int (.int .nil))))
def refSh : Sh := .sl nodSh .nil
def pntSh : Sh := .sl (.int .nil) .nil
theorem shSys : shOf Try.prog 9 24 = some sysSh := by kernel_rfl
theorem bytSys : bytB Try.prog 9 24 = true := by kernel_rfl
theorem shRef : shOf Try.prog 9 27 = some refSh := by kernel_rfl
theorem bytRef : bytB Try.prog 9 27 = true := by kernel_rfl
theorem shPnt : shOf Try.prog 9 28 = some pntSh := by kernel_rfl
theorem bytPnt : bytB Try.prog 9 28 = true := by kernel_rfl
def numL (l : List (Den (.int .nil))) : List Int := l.map (fun x => x.1)
def rowD : Den rowSh → Row
  | (a, b, _) => ⟨numL a, b⟩
def sysD : Den sysSh → LSys
  | (a, b, _) => ⟨a, List.map rowD b⟩
def derD : Den derSh → Der
  | (a, b, c, _) => ⟨numL a, numL b, c⟩
def nodD : Den nodSh → Nod
  | (a, b, c, d, e, _) => ⟨List.map derD a, b, c, d, e⟩
def refD : Den refSh → List Nod
  | (a, _) => List.map nodD a
def pntD : Den pntSh → List Int
  | (a, _) => numL a
section
variable {S : Store}
theorem cv_row (y : Den rowSh) : CvL S (encS rowSh y) (encRw (rowD y)) := by
  obtain ⟨a, b, ⟨⟩⟩ := y
  exact ⟨Cv.ints a, Cv.refl _ _, trivial⟩
theorem cv_rows (l : List (Den rowSh)) : Cv S (.sl (dflt rowSh) (encS rowSh) l) (.sl row0 encRw (l.map rowD)) :=
  Cv.sl (d := dflt rowSh) (enc := encS rowSh) row0 encRw rowD fun y _ => ⟨cv_row y, rfl⟩
theorem cv_sys (y : Den sysSh) : CvL S (encS sysSh y) (encSy (sysD y)) := by
  obtain ⟨a, b, ⟨⟩⟩ := y
  exact ⟨Cv.refl _ _, cv_rows b, trivial⟩
theorem cv_der (y : Den derSh) : CvL S (encS derSh y) (encDe (derD y)) := by
  obtain ⟨a, b, c, ⟨⟩⟩ := y
  exact ⟨Cv.ints a, Cv.ints b, Cv.refl _ _, trivial⟩
theorem cv_ders (l : List (Den derSh)) : Cv S (.sl (dflt derSh) (encS derSh) l) (.sl der0 encDe (l.map derD)) :=
  Cv.sl (d := dflt derSh) (enc := encS derSh) der0 encDe derD fun y _ => ⟨cv_der y, rfl⟩
theorem cv_nod (y : Den nodSh) : CvL S (encS nodSh y) (encNo (nodD y)) := by
  obtain ⟨a, b, c, d, e, ⟨⟩⟩ := y
  exact ⟨cv_ders a, Cv.refl _ _, Cv.refl _ _, Cv.refl _ _, Cv.refl _ _, trivial⟩
theorem cv_ref (y : Den refSh) : CvL S (encS refSh y) [.sl nod0 encNo (refD y)] := by
  obtain ⟨a, ⟨⟩⟩ := y
  exact ⟨Cv.sl (d := dflt nodSh) (enc := encS nodSh) nod0 encNo nodD fun y _ => ⟨cv_nod y, rfl⟩, trivial⟩
theorem rp_pnt {v : Value} (y : Den pntSh) (h : RPs S [v] (encS pntSh y)) : RP S v (.sl 0 encI (pntD y)) := by
  obtain ⟨a, ⟨⟩⟩ := y
  obtain ⟨v', vs, e, h1, _⟩ := h.cons_inv
  injection e with e1 e2
  subst e1
  exact Cv.ints a v h1
end
theorem numL_len (l : List (Den (.int .nil))) : (numL l).length = l.length := by simp [numL]
theorem okS_z {y : Den sysSh} (h : szS sysSh y) : okS (sysD y) := by
  obtain ⟨a, b, ⟨⟩⟩ := y
  obtain ⟨⟨h1, h2⟩, _⟩ := h
  refine ⟨by simp only [sysD, List.length_map]; exact h1, fun j hj => ?_⟩
  have hj' : j < b.length := by simpa [sysD] using hj
  have e : (sysD (a, b, ())).rows.getD j row0 = rowD b[j] := by
    rw [getD_elem row0 hj]
    simp [sysD]
  rw [e]
  have hz := h2 _ (List.getElem_mem hj')
  generalize b[j] = z at hz
  obtain ⟨c, d, ⟨⟩⟩ := z
  simp only [rowD, numL_len]
  exact hz.1.1
theorem okN_z {y : Den refSh} (h : szS refSh y) : okN (refD y) := by
  obtain ⟨a, ⟨⟩⟩ := y
  obtain ⟨⟨h1, h2⟩, _⟩ := h
  refine ⟨by simp only [refD, List.length_map]; exact h1, fun j hj => ?_⟩
  have hj' : j < a.length := by simpa [refD] using hj
  have e : (refD (a, ())).getD j nod0 = nodD a[j] := by
    rw [getD_elem nod0 hj]
    simp [refD]
  rw [e]
  have hz := h2 _ (List.getElem_mem hj')
  generalize a[j] = z at hz
  obtain ⟨c, d1, d2, d3, d4, ⟨⟩⟩ := z
  obtain ⟨⟨k1, k2⟩, _⟩ := hz
  refine ⟨by simp only [nodD, List.length_map]; exact k1, fun i hi => ?_⟩
  have hi' : i < c.length := by simpa [nodD] using hi
  have e2 : (nodD (c, d1, d2, d3, d4, ())).lines.getD i der0 = derD c[i] := by
    rw [getD_elem der0 hi]
    simp [nodD]
  rw [e2]
  have hz2 := k2 _ (List.getElem_mem hi')
  generalize c[i] = z at hz2
  obtain ⟨p, q, r, ⟨⟩⟩ := z
  obtain ⟨⟨m1, _⟩, ⟨m2, _⟩, _⟩ := hz2
  refine ⟨?_, ?_⟩
  · simp only [derD, numL_len]; exact m1
  · simp only [derD, numL_len]; exact m2
theorem pnt_z {y : Den pntSh} (h : szS pntSh y) : (pntD y).length ≤ 140737488355328 := by
  obtain ⟨a, ⟨⟩⟩ := y
  simp only [pntD, numL_len]
  exact h.1.1
end Go.Proofs.Ytgjmbmdaaahmkaa
