import Derived.Test.YtaeomngmcfdfpaaGreatDoorME
import Derived.Test.YtaeomngmcfdfpaaGreatDoorMD
import Derived.Shelf.SlSortCmp.NoneTotal
import Derived.Test.YtaeomngmcfdfpaaGreatDoorMF
import Derived.Test.YtaeomngmcfdfpaaGreatDoorMA
import Derived.Test.YtaeomngmcfdfpaaGreatDoorMB
import Derived.Test.YtaeomngmcfdfpaaGreatDoorA1
set_option linter.unusedVariables false
set_option linter.unusedSimpArgs false
namespace Go.Proofs.YtaeomngmcfdfpaaGreatDoor
open Go.Sort Go.Shelf
set_option maxRecDepth 100000
section
variable {S F : Store} {ρ : Env} {M : Mem} {w : World} {P : Program}
abbrev CV (S : Store) := { x : Cfg × List Value // RPs S x.2 (encC x.1) ∧ wideB x.1 = false }
theorem rp_nil (S : Store) : RP S (.slice none 0 0) (.sl 0 encI []) := .sl (0 : Int) encI [] none 0 1 (fun _ _ => .int .i64 0) (by simp) (by simp) (by simp) (fun i j hi => by simp at hi) (by simp) (fun i a j u hi => by simp at hi)
instance (S : Store) : Inhabited (CV S) := ⟨⟨(cfg0, [.slice none 0 0, .slice none 0 0, .int .i64 0, .slice none 0 0, .slice none 0 0, .int .i64 0]),
 .cons (rp_nil S) (.cons (rp_nil S) (.cons (.int _ _) (.cons (rp_nil S) (.cons (rp_nil S) (.cons (.int _ _) (.nil S)))))), rfl⟩⟩
end
end Go.Proofs.YtaeomngmcfdfpaaGreatDoor
namespace Go.Proofs.YtaeomngmcfdfpaaGreatDoor
set_option maxRecDepth 100000
set_option maxHeartbeats 16000000
section
variable {p : Pro} {q : Prp} {s : Siz} {ex : Bool}
structure SeP (p : Pro) (q : Prp) (s : Siz) (ex : Bool) (y : SrS) : Prop where
 sr : SrI p ex y.1 y.2
 og : OrgI p q s y.1
theorem OrgI.rp (S : Sys p q s) {l : List Org} (h : OrgI p q s l) {i : Nat} (hi : i < l.length) : Rp p q s ex (oAt l i).c := by
 obtain ⟨r, xs, hc⟩ := Chain.ex h i hi
 exact (hc.wn h hi).rp S
theorem OrgI.rdy (S : Sys p q s) {l : List Org} (h : OrgI p q s l) {i : Nat} (hi : i < l.length) : Rdy p s (oAt l i).c := (h.rp (ex := true) S hi).1
theorem nmC_sml {c : Cfg} (h : SmlC c) : SmlC (nmC p ex c) := by
 cases ex with
 |true => exact h
 |false => exact h.can
theorem SeP.met (S : Sys p q s) {y : SrS} (h : SeP p q s ex y) {o : Org} (ho : OrgI p q s (y.1 ++ [o])) : metL p ex y.1 y.2 o = addG (nmO p ex) y.1 o ∧ SeP p q s ex (metL p ex y.1 y.2 o, metF p ex y.1 y.2 o) := by
 have hs : ∀ k ∈ y.1, SmlC (nmC p ex k.c) := fun k hk => by
  obtain ⟨i, hi, rfl⟩ := mem_getDA org0 hk
  exact nmC_sml (h.og.rdy S hi).sml
 have hso : SmlC (nmC p ex o.c) := by
  have := ho.rdy S (i := y.1.length) (by simp)
  rw [oAt_snoc] at this
  exact nmC_sml this.sml
 have hk := h.sr.has hs hso
 cases hf : y.2 (keyB (nmC p ex o.c)) with
 |some v =>
  have hm : nmO p ex o ∈ y.1.map (nmO p ex) := hk.1 (by rw [hf]; rfl)
  have e1 : metL p ex y.1 y.2 o = y.1 := by simp only [metL, hf]
  have e2 : metF p ex y.1 y.2 o = y.2 := by simp only [metF, hf]
  rw [addG_yes _ hm, e1, e2]
  exact ⟨rfl, h⟩
 |none =>
  have hm : nmO p ex o ∉ y.1.map (nmO p ex) := fun hh => by
   have := hk.2 hh
   rw [hf] at this
   cases this
  have e1 : metL p ex y.1 y.2 o = y.1 ++ [o] := by simp only [metL, hf]
  have e2 : metF p ex y.1 y.2 o = updF y.2 (keyB (nmC p ex o.c)) (y.1.length : Int) := by simp only [metF, hf]
  rw [addG_no _ hm, e1, e2]
  exact ⟨rfl, h.sr.add hf, ho⟩
theorem SeP.exs (S : Sys p q s) {c : Cfg} {i : Nat} : ∀ (xs : List Stp) {y : SrS}, SeP p q s ex y → i < y.1.length → (oAt y.1 i).c = c → (∀ x ∈ xs, enB p s c x false ∧ apB c (rulX p x) x) →
  SeP p q s ex (exF p ex c i xs y) ∧ (exF p ex c i xs y).1 = addsG (nmO p ex) y.1 (xs.map (exO p c i))
 |[], y, h, _, _, _ => ⟨h, rfl⟩
 |x :: xs, y, h, hi, hc, hx => by
  have h1 := hx x List.mem_cons_self
  have ho : OrgI p q s (y.1 ++ [exO p c i x]) := by
   have := h.og.stp hi (x := x) (by rw [hc]; exact h1.1) (by rw [hc]; exact h1.2)
   rw [hc] at this
   exact this
  obtain ⟨e, h2⟩ := h.met S ho
  obtain ⟨m, e3⟩ := addG_pre (nmO p ex) y.1 (exO p c i x)
  have e4 : (exS p ex c i y x).1 = y.1 ++ m := e.trans e3
  obtain ⟨k1, k2⟩ := SeP.exs S (c := c) (i := i) xs (y := exS p ex c i y x) h2 (by rw [e4, List.length_append]; omega) (by rw [e4, oAt_app hi]; exact hc) (fun z hz => hx z (List.mem_cons_of_mem _ hz))
  refine ⟨k1, ?_⟩
  rw [List.map_cons, addsG_cons, ← e]
  exact k2
theorem SeP.inG (S : Sys p q s) : ∀ (cs : List Cfg) {y : SrS}, SeP p q s ex y → (∀ c ∈ cs, isI p q s c) →
  SeP p q s ex (cs.foldl (inS p ex) y) ∧ (cs.foldl (inS p ex) y).1 = addsG (nmO p ex) y.1 (cs.map fun c => ⟨c, -1, stp0⟩)
 |[], y, h, _ => ⟨h, rfl⟩
 |c :: cs, y, h, hx => by
  obtain ⟨e, h2⟩ := h.met S (h.og.ini (hx c List.mem_cons_self) stp0)
  obtain ⟨k1, k2⟩ := SeP.inG S cs (y := inS p ex y c) h2 (fun z hz => hx z (List.mem_cons_of_mem _ hz))
  refine ⟨k1, ?_⟩
  rw [List.map_cons, addsG_cons, ← e]
  exact k2
theorem SeP.nil : SeP p q s ex ([], fun _ => none) := ⟨SrI.nil p ex, OrgI.nil⟩
theorem SeP.inF (S : Sys p q s) (cs : List Cfg) (h : ∀ c ∈ cs, isI p q s c) : SeP p q s ex (inF p ex cs) ∧ (inF p ex cs).1 = addsG (nmO p ex) [] (cs.map fun c => ⟨c, -1, stp0⟩) := SeP.inG S cs SeP.nil h
def cfO (l : List Org) : List Cfg := l.map fun o => o.c
theorem cfO_get (l : List Org) (i : Nat) : (cfO l).getD i cfg0 = (oAt l i).c := by
 unfold cfO oAt
 rw [gD, gD, List.getElem?_map]
 cases l[i]? <;> rfl
theorem cfO_len (l : List Org) : (cfO l).length = l.length := by unfold cfO; rw [List.length_map]
end
end Go.Proofs.YtaeomngmcfdfpaaGreatDoor
namespace Go.Proofs.YtaeomngmcfdfpaaGreatDoor
set_option maxRecDepth 100000
theorem stA_le8 {p : Pro} {s : Siz} {c : Cfg} (h : Rdy p s c) : (stA p s c p.rules.length).length ≤ 2160 := by
 have h1 := stA_len p s c p.rules.length
 have hle := bigP_le h.big
 have hl : c.states.length ≤ 8 := by
  have h2 := h.vc.len
  have h3 := h.sz
  unfold modN at h2
  split at h2 <;> omega
 have h4 : c.states.length * (c.states.length + 1) ≤ 8 * 9 := Nat.mul_le_mul hl (by omega)
 have h5 : p.rules.length * (c.states.length * (c.states.length + 1)) ≤ 30 * 72 := Nat.mul_le_mul (by omega) h4
 omega
section
variable {p : Pro} {q : Prp} {s : Siz}
def iniK (p : Pro) (q : Prp) (s : Siz) : Prop := iniB (iniF p s).length (chF p q s) (modN p s).toNat
noncomputable instance decIniK (p : Pro) (q : Prp) (s : Siz) : Decidable (iniK p q s) := Classical.propDecidable _
def iniX (p : Pro) (q : Prp) (s : Siz) : List Cfg := iniL p s (iniF p s) (prodK (chF p q s) (modN p s).toNat)
theorem iniX_mem (S : Sys p q s) {c : Cfg} : c ∈ iniX p q s ↔ isI p q s c := ini_mem S.siz.1 S.siz.2
theorem iniA_yes (h : iniK p q s) : iniA p q s = rpA (iniX p q s) 0 := if_pos h
theorem iniA_no (h : ¬ iniK p q s) : iniA p q s = rpA [] 4 := if_neg h
theorem iniD_yes (h : iniK p q s) : iniD p q s = (iniX p q s, true) := if_pos h
theorem iniD_no (h : ¬ iniK p q s) : iniD p q s = ([], false) := if_neg h
theorem rpA_inj {l m : List Cfg} {e f : Int} (h : rpA l e = rpA m f) : l = m ∧ e = f := by
 unfold rpA at h
 injection h with h
 injection h with h1 h2
 injection h2 with h2 _
 injection h2 with h2 h3
 injection h1 with _ h4 h5 h6
 exact ⟨h6, h3⟩
theorem iniX_le (S : Sys p q s) (h : iniK p q s) : (iniX p q s).length ≤ 4000 ∧ ∀ k, k < (iniX p q s).length → wideB ((iniX p q s).getD k cfg0) = false ∧ plB p ((iniX p q s).getD k cfg0) := by
 obtain ⟨l, e, h1, h2, _⟩ := iniE_ok p q s S.hp
 have hz : ¬ sizQ p q s ≠ 0 := fun hh => hh S.hz
 unfold iniE at h1
 rw [if_neg hz, iniA_yes h] at h1
 obtain ⟨rfl, _⟩ := rpA_inj h1
 refine ⟨h2, fun k hk => ?_⟩
 have hr := S.rdy ((iniX_mem S).1 (getD_memA cfg0 hk))
 exact ⟨hr.wide, hr.plain⟩
def rn0 : Rn := ⟨cfg0, []⟩
structure ShB (p : Pro) (q : Prp) (s : Siz) (r : Rn) (is : Bool) (e : Int) : Prop where
 no : is = false → r = rn0
 yes : is = true → e = 0 ∧ vioB p q s r ∧ wideB r.start = false
 out : (¬ iniK p q s ∧ is = false ∧ e = 4) ∨ (iniK p q s ∧ ∃ n, n ≤ 4000 ∧ ShP p q s n is e ∧ (is = true → r.steps.length = n))
theorem ShB.one {r r' : Rn} {is is' : Bool} {e e' : Int} (h : ShB p q s r is e) (k : ShB p q s r' is' e') : is = is' ∧ e = e' ∧ r.steps.length = r'.steps.length := by
 have hlen : is = is' → (is = true → r.steps.length = r'.steps.length) → r.steps.length = r'.steps.length := by
  intro e1 h1
  cases hi : is with
  |true => exact h1 hi
  |false => rw [h.no hi, k.no (by rw [← e1]; exact hi)]
 rcases h.out with ⟨a1, a2, a3⟩ | ⟨a1, n, _, a2, a3⟩ <;> rcases k.out with ⟨b1, b2, b3⟩ | ⟨b1, m, _, b2, b3⟩
 ·exact ⟨by rw [a2, b2], by rw [a3, b3], hlen (by rw [a2, b2]) (by rw [a2]; intro hh; cases hh)⟩
 ·exact absurd b1 a1
 ·exact absurd a1 b1
 ·obtain ⟨rfl, e1, e2⟩ := a2.one b2
  exact ⟨e1, e2, hlen e1 fun hh => by rw [a3 hh, b3 (by rw [← e1]; exact hh)]⟩
structure ShA (p : Pro) (q : Prp) (s : Siz) (r : Rn) (is : Bool) (e : Int) : Prop where
 bad : sizQ p q s ≠ 0 → r = rn0 ∧ is = false ∧ e = sizQ p q s
 cls : sizQ p q s = 0 → q.kind ≠ 1 → r = rn0 ∧ is = false ∧ e = 7
 ok : sizQ p q s = 0 → q.kind = 1 → ShB p q s r is e
def shU (P : Rn → Bool → Int → Prop) : AV → Prop := fun u => ∃ r is e, u = .tup (.agg (encRn r) :: [.bool is, .int .i64 e]) ∧ P r is e
def siz0 : Siz := ⟨0, 0, 0⟩
inductive SmP (p : Pro) (q : Prp) : List Siz → Siz → Rn → Bool → Int → Prop
 |nil : SmP p q [] siz0 rn0 false 0
 |err {z : Siz} {Z : List Siz} {r : Rn} {is : Bool} {e : Int} (h : ShB p q z r is e) (he : e ≠ 0) : SmP p q (z :: Z) siz0 rn0 false e
 |yes {z : Siz} {Z : List Siz} {r : Rn} (h : ShB p q z r true 0) : SmP p q (z :: Z) z r true 0
 |on {z t : Siz} {Z : List Siz} {r r' : Rn} {is : Bool} {e : Int} (h : ShB p q z r' false 0) (k : SmP p q Z t r is e) : SmP p q (z :: Z) t r is e
theorem SmP.one {Z : List Siz} {t t' : Siz} {r r' : Rn} {is is' : Bool} {e e' : Int} (h : SmP p q Z t r is e) (k : SmP p q Z t' r' is' e') : t = t' ∧ is = is' ∧ e = e' := by
 induction h with
 |nil => cases k with | nil => exact ⟨rfl, rfl, rfl⟩
 |err h he => cases k with
  |err h' he' => exact ⟨rfl, rfl, (h.one h').2.1⟩
  |yes h' => exact absurd (h.one h').2.1 he
  |on h' _ => exact absurd (h.one h').2.1 he
 |yes h => cases k with
  |err h' he' => exact absurd (h.one h').2.1.symm he'
  |yes h' => exact ⟨rfl, rfl, rfl⟩
  |on h' _ => have := (h.one h').1; cases this
 |on h _ ih => cases k with
  |err h' he' => exact absurd (h.one h').2.1.symm he'
  |yes h' => have := (h.one h').1; cases this
  |on h' k' => exact ih k'
theorem SmP.no {Z : List Siz} {t : Siz} {r : Rn} {e : Int} (h : SmP p q Z t r false e) : r = rn0 := by
 generalize hi : false = is at h
 induction h with
 |nil => rfl
 |err h he => rfl
 |yes h => cases hi
 |on h _ ih => exact ih hi
theorem SmP.found {Z : List Siz} {t : Siz} {r : Rn} {e : Int} (h : SmP p q Z t r true e) : ShB p q t r true 0 := by
 generalize hi : true = is at h
 induction h with
 |nil => cases hi
 |err h he => cases hi
 |yes h => exact h
 |on h _ ih => exact ih hi
end
end Go.Proofs.YtaeomngmcfdfpaaGreatDoor
namespace Go.Proofs.YtaeomngmcfdfpaaGreatDoor
set_option maxRecDepth 100000
set_option maxHeartbeats 16000000
def revS (l : List Stp) (k : Nat) : List Stp := (List.range l.length).map fun j => if j < k ∨ l.length ≤ j + k then l.getD (l.length - 1 - j) stp0 else l.getD j stp0
theorem revS_len (l : List Stp) (k : Nat) : (revS l k).length = l.length := by simp [revS]
theorem revS_get (l : List Stp) (k : Nat) {j : Nat} (h : j < l.length) : (revS l k).getD j stp0 = if j < k ∨ l.length ≤ j + k then l.getD (l.length - 1 - j) stp0 else l.getD j stp0 := by
 unfold revS
 rw [gD, List.getElem?_map, List.getElem?_range h]
 rfl
theorem ext_getD {l m : List Stp} (h : l.length = m.length) (hj : ∀ j, j < l.length → l.getD j stp0 = m.getD j stp0) : l = m := by
 apply List.ext_getElem h
 intro j h1 h2
 have := hj j h1
 rw [gD, gD, gL h1, gL h2] at this
 exact this
theorem revS_zero (l : List Stp) : revS l 0 = l := by
 refine ext_getD (revS_len l 0) fun j hj => ?_
 rw [revS_len] at hj
 rw [revS_get l 0 hj, if_neg (by omega)]
theorem revS_all {l : List Stp} {k : Nat} (h : l.length ≤ k + k + 1) : revS l k = l.reverse := by
 refine ext_getD (by rw [revS_len, List.length_reverse]) fun j hj => ?_
 rw [revS_len] at hj
 have e : l.reverse.getD j stp0 = l.getD (l.length - 1 - j) stp0 := by
  rw [gD, gD, List.getElem?_reverse hj]
 rw [revS_get l k hj, e]
 split
 ·rfl
 ·congr 1
  omega
theorem set_getD (l : List Stp) (i : Nat) (x : Stp) (j : Nat) (hi : i < l.length) : (l.set i x).getD j stp0 = if j = i then x else l.getD j stp0 := by
 rw [gD, List.getElem?_set]
 by_cases h : i = j
 ·subst h; rw [if_pos rfl, if_pos hi, if_pos rfl]; rfl
 ·rw [if_neg h, if_neg (fun e => h e.symm), gD]
theorem revS_up {l : List Stp} {k : Nat} (h : k + k + 1 < l.length) : ((revS l k).set k ((revS l k).getD (l.length - 1 - k) stp0)).set (l.length - 1 - k) ((revS l k).getD k stp0) = revS l (k + 1) := by
 have hl := revS_len l k
 refine ext_getD (by rw [List.length_set, List.length_set, revS_len, revS_len]) fun j hj => ?_
 rw [List.length_set, List.length_set, hl] at hj
 rw [set_getD _ _ _ _ (by rw [List.length_set, hl]; omega), set_getD _ _ _ _ (by rw [hl]; omega), revS_get l _ hj, revS_get l _ hj, revS_get l k (by omega), revS_get l k (by omega)]
 by_cases h1 : j = l.length - 1 - k
 ·subst h1
  rw [if_pos rfl, if_neg (by omega), if_pos (by omega)]
  congr 1
  omega
 ·rw [if_neg h1]
  by_cases h2 : j = k
  ·subst h2
   rw [if_pos rfl, if_neg (by omega), if_pos (by omega)]
  ·rw [if_neg h2]
   by_cases h3 : j < k ∨ l.length ≤ j + k
   ·rw [if_pos h3, if_pos (by omega)]
   ·rw [if_neg h3, if_neg (by omega)]
theorem Chain.len_le {l : List Org} {i r : Nat} {xs : List Stp} (h : Chain l i r xs) : xs.length ≤ i := by
 induction h with
 |root h => exact Nat.zero_le _
 |step hj _ _ ih => rw [List.length_append, List.length_singleton]; omega
def runA (c : Cfg) (n : Nat) : AV := .agg [.row 8001 c.shape.length 1, .row 8002 c.states.length 1, .int .i64 c.correct, .row 8003 c.sent.length 1, .row 8004 c.faulty.length 1, .int .i64 c.value, .row 8005 n 3]
def runM (c : Cfg) (xs : List Stp) : List (Nat × Blk) := [(8001, rowN c.shape), (8002, rowN c.states), (8003, rowN c.sent), (8004, rowN c.faulty), (8005, rowX xs)]
def bxR0 : Blk := .box 40 [.nilsl, .nilsl, .int .i64 0, .nilsl, .nilsl, .int .i64 0, .nilsl]
def lmR : LMap := [(7001, .old 7001), (7002, .old 7002), (7003, .old 7003), (8001, .old 1001), (8002, .old 1002), (8003, .old 1003), (8004, .old 1004), (8005, .old 1000)]
theorem runF (p : Pro) (s : Siz) (ex : Bool) (l : List Org) (f : ByteArray → Option Int) (i r : Nat) (xs : List Stp) (hc : Chain l i r xs) (hi : i < l.length) (hl : l.length ≤ 100000000) (hw : wideB (oAt l r).c = false) :
  Spec Tryz.prog 35 [.ptr 7001 0, .int .i64 (i : Int)] (Mem.ofL (srM p s ex l f)) (fun u M => u = runA (oAt l r).c xs.length ∧ M = Mem.ofL (srM p s ex l f ++ runM (oAt l r).c xs)) := by
 have hxl := hc.len_le
 refine Spec.renorm 400 (R := fun u M => avR lmR 400 u (runA (oAt l r).c xs.length) ∧ memR lmR 400 M (srM p s ex l f ++ runM (oAt l r).c xs)) ?_ ?_
 case refine_2 =>
  rintro u M ⟨h1, h2⟩
  exact ⟨lmR, _, runA (oAt l r).c xs.length, rfl, h2, h1, rfl, rfl⟩
 refine Spec.intro tt_ok mx_ok (srM p s ex l f) Tryz.func35 rfl (by decide) ?_
 conv => whnf
 refine WPc.loopF tt_ok mx_ok (fun z : Nat × List Stp => z.1 < l.length ∧ z.2.length + z.1 ≤ i ∧ ∃ ys, Chain l z.1 r ys ∧ xs = ys ++ z.2.reverse) (fun z => [(1, .int .i64 (z.1 : Int)), (5, .row 1000 z.2.length 3)]) (fun z => (1000, rowX z.2) :: (4, bxR0) :: srM p s ex l f) (fun z => z.1) (i, []) ⟨hi, by simp, xs, hc, by simp⟩ ?_; conv => whnf
 refine ⟨Sub.by_ [(1000, .nil 3), (4, .old 4), (7001, .old 7001), (7002, .old 7002), (7003, .old 7003)] _ 400 rfl (auto_) (auto_), ?_⟩
 rintro ⟨k, acc⟩ ⟨h1, h2, ys, h3, h4⟩
 dsimp only at h1 h2 h3 h4 ⊢
 conv => whnf
 refine nI ?_
 rw [tN]
 conv => whnf
 refine cmpI ?_ ?_ <;> (intro g1; conv => whnf)
 ·cases h3 with
  |root hs =>
   exfalso
   have hs' : (l.getD _ org0).src = -1 := hs
   omega
  |@step _ j _ ys' hj hs h3' =>
   have hs' : (l.getD k org0).src = (j : Int) := hs
   refine nI ?_
   rw [tN]
   conv => whnf
   refine bldI stp0 encX [(l.getD k org0).st] rfl ?_
   conv => whnf
   refine appI [(l.getD k org0).st] rfl lI ?_
   conv => whnf
   refine nI ?_
   rw [tN]
   conv => whnf
   rw [hs']
   refine ⟨(j, acc ++ [(l.getD k org0).st]), ?_, ⟨by dsimp only; omega, by simp only [List.length_append, List.length_singleton]; omega, ys', h3', ?_⟩, by dsimp only; omega⟩
   ·dsimp only
    exact Sub.by_ [(1000, .old 35), (4, .old 4), (7001, .old 7001), (7002, .old 7002), (7003, .old 7003)] _ 400 rfl (auto_) (auto_)
   ·rw [h4]
    simp
 ·have hkr : k = r ∧ xs = acc.reverse := by
   cases h3 with
   |root hs => exact ⟨rfl, by simpa using h4⟩
   |step hj hs _ =>
    exfalso
    have hs' : (l.getD k org0).src = _ := hs
    omega
  obtain ⟨rfl, hx⟩ := hkr
  refine aI ?_
  conv => whnf
  refine WPc.loopF tt_ok mx_ok (fun m : Nat => m ≤ acc.length) (fun m => [(6, .int .i64 (m : Int)), (7, .int .i64 ((acc.length : Int) - 1 - m))]) (fun m => (1000, rowX (revS acc m)) :: (4, bxR0) :: srM p s ex l f) (fun m => acc.length - m) 0 (Nat.zero_le _) ?_; conv => whnf
  refine ⟨by rw [revS_zero]; exact Sub.by_ [(1000, .old 1000), (4, .old 4), (7001, .old 7001), (7002, .old 7002), (7003, .old 7003)] _ 400 rfl (auto_) (auto_), ?_⟩
  rintro m hm
  conv => whnf
  refine cmpI ?_ ?_ <;> (intro g2; conv => whnf)
  ·refine dI ?_
   conv => whnf
   have hup := revS_up (l := acc) (k := m) (by omega)
   refine nI ?_
   rw [show ((acc.length : Int) - 1 - (m : Int)).toNat = acc.length - 1 - m by omega]
   conv => whnf
   refine nI ?_
   rw [tN]
   conv => whnf
   refine nI ?_
   rw [tN]
   conv => whnf
   refine rowSetI ((revS acc m).getD (acc.length - 1 - m) stp0) rfl ?_
   conv => whnf
   refine nI ?_
   rw [show ((acc.length : Int) - 1 - (m : Int)).toNat = acc.length - 1 - m by omega]
   conv => whnf
   refine rowSetI ((revS acc m).getD m stp0) rfl ?_
   conv => whnf
   repeat' ((first|refine nI ?_|refine aI ?_|refine tI ?_|refine fI ?_|fail);conv => whnf)
   refine ⟨m + 1, ?_, by omega, by dsimp only; omega⟩
   dsimp only
   rw [← hup]
   exact Sub.by_ [(1000, .old 1000), (4, .old 4), (7001, .old 7001), (7002, .old 7002), (7003, .old 7003)] _ 400 rfl (auto_) (auto_)
  ·have hrev : revS acc m = xs := by rw [hx, revS_all (by omega)]
   rw [hrev]
   have hlen : acc.length = xs.length := by rw [hx, List.length_reverse]
   refine nI ?_
   rw [tN]
   conv => whnf
   refine Spec.news 400 (lmC 5 9 13 17) (memC (oAt l k).c) (cfgL (oAt l k).c) (cloneL (oAt l k).c hw) (auto_) rfl outC ?_
   conv => whnf
   rw [hlen]
   exact ⟨auto_, auto_⟩
theorem initialK (p : Pro) (q : Prp) (s : Siz) (S : Sys p q s) : PSpec Tryz.prog 68 [.agg (encP p), .agg (encQ q), .agg (encZ s)] (fun u => u = iniA p q s) :=
 PSpec.rp (iniA_form p q s) (initialF p q s S.hp S.hq S.siz.1 S.siz.2)
theorem beginK (p : Pro) (q : Prp) (s : Siz) (ex : Bool) (S : Sys p q s) :
  Spec Tryz.prog 33 [.agg (encP p), .agg (encQ q), .agg (encZ s), .bool ex] (Mem.ofL []) (fun u M =>
   (¬ iniK p q s ∧ u = .tup [.val (.pointer none), .int .i64 4]) ∨ (iniK p q s ∧ u = .tup [.ptr 7001 0, .int .i64 0] ∧ M = Mem.ofL (srM p s ex (inF p ex (iniX p q s)).1 (inF p ex (iniX p q s)).2))) := by
 have hI := initialK p q s S
 by_cases h : iniK p q s
 ·rw [iniA_yes h] at hI
  obtain ⟨h1, h2⟩ := iniX_le S h
  refine (beginF p q s ex (iniX p q s) 0 hI (by omega) h2).mono ?_
  rintro u M (⟨h3, _⟩ | ⟨_, h4, h5⟩)
  ·exact absurd rfl h3
  ·exact .inr ⟨h, h4, h5⟩
 ·rw [iniA_no h] at hI
  refine (beginF p q s ex [] 4 hI (by simp) (fun k hk => absurd hk (Nat.not_lt_zero _))).mono ?_
  rintro u M (⟨_, h4⟩ | ⟨h3, _⟩)
  ·exact .inl ⟨h, h4⟩
  ·exact absurd h3 (by decide)
def rnN : List AV := [.nilsl, .nilsl, .int .i64 0, .nilsl, .nilsl, .int .i64 0, .nilsl]
def shV (P : Rn → Bool → Int → Prop) : AV → Prop := fun u => shU P u ∨ ∃ is e, u = .tup (.agg rnN :: [.bool is, .int .i64 e]) ∧ P rn0 is e
theorem PSpec.sh {f : FuncId} {args : List AV} {Q : Rn → Bool → Int → Prop} (h : PSpec Tryz.prog f args (shV Q)) : PSpec Tryz.prog f args (shU Q) := by
 refine PSpec.sub h ?_
 rintro u (⟨r, is, e, rfl, hQ⟩ | ⟨is, e, rfl, hQ⟩)
 ·exact ⟨_, ⟨r, is, e, rfl, hQ⟩, auto_, rfl⟩
 ·exact ⟨_, ⟨rn0, is, e, rfl, hQ⟩, auto_, rfl⟩
theorem ShB.found {p : Pro} {q : Prp} {s : Siz} (S : Sys p q s) (hi : iniK p q s) (hk : q.kind = 1) {l : List Org} {lo n i r : Nat} {xs : List Stp} (h : Lev p q s l lo n) (h1 : lo ≤ i) (h2 : i < l.length) (hb : badB p q (oAt l i).c) (hc : Chain l i r xs) :
  ShB p q s ⟨(oAt l r).c, xs⟩ true 0 := by
 obtain ⟨k1, k2, k3⟩ := hc.run h.og h2
 have e := h.len i r xs h1 h2 hc
 refine ⟨(fun hh => by cases hh), fun _ => ⟨rfl, ⟨S.hz, hk, k1, k2, ?_⟩, (S.rdy k1).wide⟩, .inr ⟨hi, n, ?_, h.badS S h1 h2 hb, fun _ => e⟩⟩
 ·show badB p q ((trs p (oAt l r).c xs).getD xs.length cfg0)
  rw [k3]; exact hb
 ·have := h.num
  have := h.few
  omega
theorem ShB.none_ {p : Pro} {q : Prp} {s : Siz} (hi : iniK p q s) {l : List Org} {lo n : Nat} {e : Int} (h : Lev p q s l lo n) (hs : ShP p q s n false e) : ShB p q s rn0 false e :=
 ⟨fun _ => rfl, fun hh => (by cases hh), .inr ⟨hi, n, by have := h.num; have := h.few; omega, hs, fun hh => (by cases hh)⟩⟩
def lmS : LMap := [(6, .old 6), (7001, .old 7001), (7002, .old 7002), (7003, .old 7003)]
def lmT : LMap := [(6, .old 6), (7001, .old 7001), (7002, .old 7002), (7003, .old 7004)]
theorem shortestF (p : Pro) (q : Prp) (s : Siz) (S : Sys p q s) (hq1 : q.kind = 1) : PSpec Tryz.prog 18 [.agg (encP p), .agg (encQ q), .agg (encZ s)] (shU (ShB p q s)) := by
 refine PSpec.sh ?_
 have hok := prop_ok S.siz.1 hq1
 refine PSpec.intro tt_ok mx_ok Tryz.func18 rfl (by decide) ?_; (conv => whnf)
 refine boxP rfl ?_
 conv => whnf
 refine boxP rfl ?_
 conv => whnf
 refine boxP rfl ?_
 conv => whnf
 refine Spec.call [] [] 400 rfl trivial (auto_) (beginK p q s false S) ?_
 rintro u M (⟨hn, rfl⟩ | ⟨hi, rfl, rfl⟩)
 ·refine ⟨[], [], .tup [.val (.pointer none), .int .i64 4], rfl, trivial, (auto_), ?_⟩
  conv => whnf
  refine tI ?_
  conv => whnf
  exact ⟨.inr ⟨false, 4, rfl, fun _ => rfl, fun hh => (by cases hh), .inl ⟨hn, rfl, rfl⟩⟩, rfl⟩
 obtain ⟨g0, g1⟩ := SeP.inF (ex := false) S (iniX p q s) fun c hc => (iniX_mem S).1 hc
 have g2 : Lev p q s (inF p false (iniX p q s)).1 0 0 := by
  rw [g1]
  exact Lev.zero (iniX p q s) fun c => iniX_mem S
 have g4 := inF_len p false (iniX p q s)
 have g5 := (iniX_le S hi).1
 have g6 : (inF p false (iniX p q s)).1.length ≤ 4000 := by omega
 clear g1 g4 g5
 generalize inF p false (iniX p q s) = y0 at g0 g2 g6 ⊢
 refine ⟨[(7001, .old 7001), (7002, .old 7002), (7003, .old 7003)], srM p s false y0.1 y0.2, .tup [.ptr 7001 0, .int .i64 0], rfl, (auto_), (auto_), ?_⟩
 conv => whnf
 refine fI ?_
 conv => whnf
 refine WPc.loopF tt_ok mx_ok (fun z : SrS × Nat × Nat => SeP p q s false z.1 ∧ Lev p q s z.1.1 z.2.1 z.2.2 ∧ z.1.1.length ≤ 10000000) (fun z => [(11, .int .i64 (z.2.1 : Int))]) (fun z => (6, bxR0) :: srM p s false z.1.1 z.1.2) (fun z => 4001 - z.2.1) (y0, 0, 0) ⟨g0, g2, by dsimp only; omega⟩ ?_; conv => whnf
 refine ⟨Sub.by_ lmS _ 400 rfl (auto_) (auto_), ?_⟩
 rintro ⟨⟨l, f⟩, lo, n⟩ ⟨h1, h2, hbig⟩
 dsimp only at h1 h2 hbig ⊢
 have hle := h2.le
 conv => whnf
 refine cmpI ?_ ?_ <;> (intro g3; conv => whnf)
 case refine_2 =>
  have e : lo = l.length := by omega
  exact ⟨.inr ⟨false, 0, rfl, ShB.none_ hi h2 (h2.endS e)⟩, rfl⟩
 have hlo : lo < l.length := by omega
 have hrd := fun i (hi : i < l.length) => h1.og.rdy S hi
 refine WPc.loopF tt_ok mx_ok (fun i : Nat => lo ≤ i ∧ i ≤ l.length ∧ ∀ j, lo ≤ j → j < i → ¬ badB p q (oAt l j).c) (fun i => [(13, .int .i64 (i : Int))]) (fun _ => (6, bxR0) :: srM p s false l f) (fun i => l.length - i) lo ⟨Nat.le_refl _, hle, fun j a b => by omega⟩ ?_; conv => whnf
 refine ⟨Sub.by_ lmS _ 400 rfl (auto_) (auto_), ?_⟩
 rintro i ⟨a1, a2, a3⟩
 conv => whnf
 refine cmpI ?_ ?_ <;> (intro g4; conv => whnf)
 ·have hil : i < l.length := by omega
  have hr := hrd i hil
  refine dI ?_
  conv => whnf
  refine nI ?_
  rw [tN]
  conv => whnf
  refine dD (badF p q (l.getD i org0).c S.hp S.hq hr.wide hr.plain hok) (fun _ => ?_) (fun _ => ?_) <;> (conv => whnf)
  ·rename_i hb
   obtain ⟨r, xs, hc⟩ := Chain.ex h1.og i hil
   have hB := ShB.found S hi hq1 h2 a1 hil hb hc
   refine Spec.call [(7001, .old 7001), (7002, .old 7002), (7003, .old 7003)] (srM p s false l f) 400 rfl (auto_) (auto_) (runF p s false l f i r xs hc hil (by omega) (hB.yes rfl).2.2) ?_
   rintro u M' ⟨rfl, rfl⟩
   refine ⟨[(7001, .old 7001), (7002, .old 7002), (7003, .old 7003), (8001, .old 8001), (8002, .old 8002), (8003, .old 8003), (8004, .old 8004), (8005, .old 8005)], srM p s false l f ++ runM (oAt l r).c xs, runA (oAt l r).c xs.length, rfl, (auto_), (auto_), ?_⟩
   conv => whnf
   exact ⟨.inl ⟨⟨(oAt l r).c, xs⟩, true, 0, rfl, hB⟩, rfl⟩
  ·rename_i hb
   repeat' ((first|refine nI ?_|refine aI ?_|refine tI ?_|refine fI ?_|fail);conv => whnf)
   refine ⟨i + 1, Sub.by_ lmS _ 400 rfl (auto_) (auto_), ⟨by omega, by omega, fun j b1 b2 => ?_⟩, by dsimp only; omega⟩
   by_cases hj : j < i
   ·exact a3 j b1 hj
   ·obtain rfl : j = i := by omega
    exact hb
 have hbad : ∀ j, lo ≤ j → j < l.length → ¬ badB p q (oAt l j).c := fun j b1 b2 => a3 j b1 (by omega)
 clear a1 a2 a3 g4
 refine cmpI ?_ ?_ <;> (intro g5; conv => whnf)
 ·exact ⟨.inr ⟨false, 4, rfl, ShB.none_ hi h2 (h2.manyS S hlo hbad (by omega))⟩, rfl⟩
 have hfew : l.length ≤ 4000 := by omega
 refine WPc.loopF tt_ok mx_ok (fun z : SrS × Nat => SeP p q s false z.1 ∧ LevX p q s l lo z.1.1 z.2 ∧ lo ≤ z.2 ∧ z.2 ≤ l.length ∧ z.1.1.length ≤ 4000 + (z.2 - lo) * 2160) (fun z => [(11, .int .i64 (z.2 : Int)), (30, .top), (36, .top)]) (fun z => (6, bxR0) :: srM p s false z.1.1 z.1.2) (fun z => l.length - z.2) ((l, f), lo) ⟨h1, LevX.zero h2, Nat.le_refl _, hle, by dsimp only; omega⟩ ?_; conv => whnf
 refine ⟨Sub.by_ lmS _ 400 rfl (auto_) (auto_), ?_⟩
 rintro ⟨⟨l2, f2⟩, k⟩ ⟨b1, b2, b3, b4, b5⟩
 dsimp only at b1 b2 b3 b4 b5 ⊢
 conv => whnf
 refine cmpI ?_ ?_ <;> (intro g6; conv => whnf)
 ·have hkl : k < l.length := by omega
  have hk2 : k < l2.length := by
   obtain ⟨m2, hm2⟩ := b2.pre
   rw [hm2, List.length_append]
   omega
  have hr : Rdy p s (oAt l2 k).c := b1.og.rdy S hk2
  have hsame : oAt l2 k = oAt l k := b2.same hkl
  refine Spec.call [(7001, .old 7001), (7002, .old 7002), (7003, .old 7003)] (srM p s false l2 f2) 400 rfl (auto_) (auto_) (expandF p s false (l2, f2) k (oAt l2 k) rfl hk2 (by dsimp only; omega) hr (fun x he ha => ⟨(hr.next he ha).wide, (hr.next he ha).plain⟩)) ?_
  rintro u M' (⟨ha, rfl, rfl⟩ | ⟨ho, rfl, z, rfl⟩)
  ·obtain ⟨c1, c2⟩ := b1.exs S (stA p s (oAt l2 k).c p.rules.length) hk2 rfl fun x hx => ⟨stA_mem.1 hx, ha x hx⟩
   have c3 := b2.next b3 hkl (stA p s (oAt l k).c p.rules.length) (fun x => stA_mem) (by rw [← hsame]; exact ha)
   rw [← hsame, ← c2] at c3
   have c4 := exF_len p false (oAt l2 k).c k (stA p s (oAt l2 k).c p.rules.length) (l2, f2)
   have c5 := stA_le8 hr
   generalize exF p false (oAt l2 k).c k (stA p s (oAt l2 k).c p.rules.length) (l2, f2) = y2 at c1 c3 c4 ⊢
   dsimp only at c4
   refine ⟨lm4, srN p s false y2.1 y2.2, .int .i64 0, rfl, (auto_), rfl, ?_⟩
   conv => whnf
   refine fI ?_
   conv => whnf
   repeat' ((first|refine nI ?_|refine aI ?_|refine tI ?_|refine fI ?_|fail);conv => whnf)
   refine ⟨(y2, k + 1), ?_, ⟨c1, c3, by dsimp only; omega, by dsimp only; omega, by dsimp only; omega⟩, by dsimp only; omega⟩
   dsimp only
   exact Sub.by_ lmT _ 400 rfl (auto_) (auto_)
  ·refine ⟨lm4, srN p s false z.1 z.2, .int .i64 4, rfl, (auto_), rfl, ?_⟩
   conv => whnf
   refine tI ?_
   conv => whnf
   exact ⟨.inr ⟨false, 4, rfl, ShB.none_ hi h2 (h2.overS S hbad b3 hkl (by rw [← hsame]; exact ho))⟩, rfl⟩
 ·obtain rfl : k = l.length := by omega
  have hn := b2.done S h2 hlo hbad hfew
  refine ⟨((l2, f2), l.length, n + 1), ?_, ⟨b1, hn, by dsimp only; omega⟩, by dsimp only; omega⟩
  dsimp only
  exact Sub.by_ lmS _ 400 rfl (auto_) (auto_)
end Go.Proofs.YtaeomngmcfdfpaaGreatDoor
