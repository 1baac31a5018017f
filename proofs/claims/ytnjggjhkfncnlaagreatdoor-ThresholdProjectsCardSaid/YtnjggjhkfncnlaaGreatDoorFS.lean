import Derived.Test.YtnjggjhkfncnlaaGreatDoorA1
set_option linter.unusedVariables false
set_option linter.unusedSimpArgs false
namespace Go.Proofs.YtnjggjhkfncnlaaGreatDoor
set_option maxRecDepth 100000
set_option maxHeartbeats 16000000
theorem rp_ex {p : Pro} {s : Siz} {c : Cfg} (h : wideB c = false) (l : List Stp) : ∃ m e, rp p s [c] c l = rpA m e:=by
 obtain ⟨m, e, h1, _⟩:=rp_form p s l [c] c (by simpa using h) h
 exact ⟨m, e, h1⟩
structure Rn where
 start : Cfg
 steps : List Stp
def encRn (r : Rn) : List AV:=encC r.start ++ [.sl stp0 encX r.steps]
noncomputable def rpT (p : Pro) (s : Siz) (r : Rn) : AV:=if sizeE p s ≠ 0 then rpA [] (sizeE p s) else if VC p s r.start then rp p s [r.start] r.start r.steps else rpA [] 10
def runOk (p : Pro) (s : Siz) : Cfg → List Stp → Prop
 |_, []=>True
 |cur, x :: xs=>enB p s cur x false ∧ apB cur (rulX p x) x ∧ runOk p s (apC cur (rulX p x) x) xs
noncomputable instance decRun (p : Pro) (s : Siz) (c : Cfg) (l : List Stp) : Decidable (runOk p s c l):=Classical.propDecidable _
def tr (p : Pro) : Cfg → List Stp → List Cfg
 |_, []=>[]
 |cur, x :: xs=>apC cur (rulX p x) x :: tr p (apC cur (rulX p x) x) xs
theorem rp_ok {p : Pro} {s : Siz} : ∀ {xs : List Stp} {acc : List Cfg} {cur : Cfg}, runOk p s cur xs → rp p s acc cur xs = rpA (acc ++ tr p cur xs) 0
 |[], acc, cur, _=>by simp [rp, tr]
 |x :: xs, acc, cur, ⟨h1, h2, h3⟩=>by
  rw [rp, if_pos h1, if_pos h2, rp_ok h3, tr, List.append_assoc]
  rfl
theorem rp_no {p : Pro} {s : Siz} : ∀ {xs : List Stp} {acc : List Cfg} {cur : Cfg}, ¬ runOk p s cur xs → ∃ e, e ≠ 0 ∧ rp p s acc cur xs = rpA [] e
 |[], acc, cur, h=>absurd trivial h
 |x :: xs, acc, cur, h=>by
  rw [rp]
  by_cases h1 : enB p s cur x false
  ·rw [if_pos h1]
   by_cases h2 : apB cur (rulX p x) x
   ·rw [if_pos h2]
    exact rp_no fun h3=>h ⟨h1, h2, h3⟩
   ·rw [if_neg h2]; exact ⟨4, by decide, rfl⟩
  ·rw [if_neg h1]; exact ⟨9, by decide, rfl⟩
theorem tr_len {p : Pro} : ∀ (xs : List Stp) (cur : Cfg), (tr p cur xs).length = xs.length
 |[], _=>rfl
 |x :: xs, cur=>by simp only [tr, List.length_cons]; rw [tr_len xs]
def trs (p : Pro) (c : Cfg) (l : List Stp) : List Cfg:=c :: tr p c l
theorem trs_len (p : Pro) (c : Cfg) (l : List Stp) : (trs p c l).length = l.length + 1:=by simp [trs, tr_len]
theorem trs_rdy {p : Pro} {s : Siz} : ∀ {xs : List Stp} {cur : Cfg}, Rdy p s cur → runOk p s cur xs → ∀ i, i ≤ xs.length → Rdy p s ((trs p cur xs).getD i cfg0)
 |_, cur, h, _, 0, _=>h
 |[], _, _, _, i + 1, hi=>by simp at hi
 |x :: xs, cur, h, ⟨h1, h2, h3⟩, i + 1, hi=>by
  have:=trs_rdy (h.next h1 h2) h3 i (by simpa using hi)
  exact this
theorem trs_step {p : Pro} {s : Siz} : ∀ {xs : List Stp} {cur : Cfg}, Rdy p s cur → runOk p s cur xs → ∀ i, i < xs.length →
  enB p s ((trs p cur xs).getD i cfg0) (xs.getD i stp0) false ∧ apB ((trs p cur xs).getD i cfg0) (rulX p (xs.getD i stp0)) (xs.getD i stp0) ∧ (trs p cur xs).getD (i + 1) cfg0 = apC ((trs p cur xs).getD i cfg0) (rulX p (xs.getD i stp0)) (xs.getD i stp0)
 |[], _, _, _, _, hi=>by simp at hi
 |x :: xs, cur, h, ⟨h1, h2, h3⟩, 0, _=>⟨h1, h2, rfl⟩
 |x :: xs, cur, h, ⟨h1, h2, h3⟩, i + 1, hi=>trs_step (h.next h1 h2) h3 i (by simpa using hi)
end Go.Proofs.YtnjggjhkfncnlaaGreatDoor
