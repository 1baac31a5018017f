import Derived.Test.YtaeomngmcfdfpaaGreatDoorMN
set_option linter.unusedVariables false
set_option linter.unusedSimpArgs false
namespace Go.Proofs.YtaeomngmcfdfpaaGreatDoor
set_option maxRecDepth 100000
set_option maxHeartbeats 16000000
theorem validE_init {p : Pro} (h : validE p = 0) : 0 < p.initial.length ∧ setE p.initial p.states.length = 0 ∧ setE p.leader p.states.length = 0 := by
 unfold validE at h
 have ht : tailE p = 0 := by
  (repeat' split at h) <;> first | exact h | omega
 have hz := orL_zero ht
 have h1 := hz (if p.initial.length = 0 then 1 else 0) (by simp)
 refine ⟨?_, hz _ (by simp), hz _ (by simp)⟩
 split at h1 <;> omega
theorem propE_valid {p : Pro} {q : Prp} (h : propE p q = 0) : validE p = 0 := by
 unfold propE at h
 by_cases h1 : validE p ≠ 0
 ·rw [if_pos h1] at h; omega
 ·omega
theorem propE_start {p : Pro} {q : Prp} (h : propE p q = 0) : setE q.start p.states.length = 0 ∧ ∀ j, j < q.start.length → q.start.getD j 0 ∈ p.initial := by
 unfold propE at h
 by_cases h1 : validE p ≠ 0
 ·rw [if_pos h1] at h; omega
 rw [if_neg h1] at h
 by_cases h2 : ¬ validN q.name
 ·rw [if_pos h2] at h; omega
 rw [if_neg h2] at h
 split at h
 ·omega
 split at h
 ·omega
 by_cases h4 : setE q.start p.states.length ≠ 0
 ·rw [if_pos h4] at h; omega
 rw [if_neg h4] at h
 by_cases h5 : ¬ (∀ j, j < q.start.length → q.start.getD j 0 ∈ p.initial)
 ·rw [if_pos h5] at h; omega
 ·exact ⟨by omega, Classical.not_not.1 h5⟩
def stL (p : Pro) (q : Prp) : List Int := if 0 < q.start.length then q.start else p.initial
def chF (p : Pro) (q : Prp) (s : Siz) (i : Nat) : List Int := if i = 0 ∧ 0 < p.leader.length then p.leader else if (i : Int) < s.n - s.f then stL p q else p.initial
theorem cloneIntsF (l : List Int) (h0 : 0 < l.length) (hl : l.length ≤ 1000) : PSpec Tryz.prog 136 [.sl 0 encI l] (fun u => u = .sl 0 encI l) := by
 refine PSpec.intro tt_ok mx_ok Tryz.func136 rfl (by decide) ?_; (conv => whnf)
 refine needI (fun e => by rw [e] at h0; simp at h0) ?_
 conv => whnf
 refine bldI 0 encI [] rfl ?_
 conv => whnf
 refine appI _ rfl (by simp only [List.length_nil]; omega) ?_
 conv => whnf
 exact ⟨rfl, rfl⟩
theorem startsF (p : Pro) (q : Prp) (hp : ¬ bigP p) (hq : ¬ bigQ q) (hv : propE p q = 0) : PSpec Tryz.prog 110 [.agg (encP p), .agg (encQ q)] (fun u => u = .tup [.sl 0 encI (stL p q), .int .i64 0]) := by
 have hle := bigP_le hp
 have hlq := bigQ_le hq
 have hi := validE_init (propE_valid hv)
 have he := stL.eq_1 p q
 refine PSpec.intro tt_ok mx_ok Tryz.func110 rfl (by decide) ?_; (conv => whnf)
 refine boxP rfl ?_
 conv => whnf
 refine boxP rfl ?_
 conv => whnf
 (refine oP (propertyF p q (okP_of hp) (okQ_of hq)) ?_; conv => whnf)
 refine fI ?_
 conv => whnf
 refine cmpI ?_ ?_ <;> (intro h1; conv => whnf)
 ·rw [if_pos (by omega)] at he
  (refine oP (cloneIntsF q.start (by omega) (by omega)) ?_; conv => whnf)
  exact ⟨he ▸ rfl, rfl⟩
 ·rw [if_neg (by omega)] at he
  (refine oP (cloneIntsF p.initial (by omega) (by omega)) ?_; conv => whnf)
  exact ⟨he ▸ rfl, rfl⟩
theorem startStatesR (p : Pro) (q : Prp) (hp : ¬ bigP p) (hq : ¬ bigQ q) : PSpec Tryz.prog 94 [.agg (encP p), .agg (encQ q)] (fun u => u = .sl 0 encI (stL p q)) := by
 have hle := bigP_le hp
 have hlq := bigQ_le hq
 have he := stL.eq_1 p q
 refine PSpec.intro tt_ok mx_ok Tryz.func94 rfl (by decide) ?_; (conv => whnf)
 refine boxP rfl ?_
 conv => whnf
 refine boxP rfl ?_
 conv => whnf
 refine cmpI ?_ ?_ <;> (intro h1; conv => whnf)
 ·rw [if_pos (by omega)] at he
  (refine oP (copyIntsR q.start (by omega)) ?_; conv => whnf)
  exact ⟨he ▸ rfl, rfl⟩
 ·rw [if_neg (by omega)] at he
  (refine oP (copyIntsR p.initial (by omega)) ?_; conv => whnf)
  exact ⟨he ▸ rfl, rfl⟩
theorem choicesR (p : Pro) (q : Prp) (s : Siz) (i : Nat) (hp : ¬ bigP p) (hq : ¬ bigQ q) (hs : (1 ≤ s.n ∧ s.n ≤ 8) ∧ (0 ≤ s.f ∧ s.f ≤ s.n)) : PSpec Tryz.prog 51 [.agg (encP p), .agg (encQ q), .agg (encZ s), .int .i64 (i : Int)] (fun u => u = .sl 0 encI (chF p q s i)) := by
 have he := chF.eq_1 p q s i
 refine PSpec.intro tt_ok mx_ok Tryz.func51 rfl (by decide) ?_; (conv => whnf)
 refine boxP rfl ?_
 conv => whnf
 refine boxP rfl ?_
 conv => whnf
 refine boxP rfl ?_
 conv => whnf
 by_cases h1 : i = 0 ∧ 0 < p.leader.length
 ·rw [if_pos h1] at he
  repeat' ((first|refine nI ?_|refine aI ?_|refine tI ?_|refine fI ?_|fail);conv => whnf)
  exact ⟨he ▸ rfl, rfl⟩
 rw [if_neg h1] at he
 by_cases h2 : (i : Int) < s.n - s.f
 ·rw [if_pos h2] at he
  by_cases h3 : i = 0
  all_goals
   repeat' ((first|refine nI ?_|refine aI ?_|refine tI ?_|refine fI ?_|fail);conv => whnf)
   (refine oP (startStatesR p q hp hq) ?_; conv => whnf)
   exact ⟨he ▸ rfl, rfl⟩
 ·rw [if_neg h2] at he
  by_cases h3 : i = 0
  all_goals
   repeat' ((first|refine nI ?_|refine aI ?_|refine tI ?_|refine fI ?_|fail);conv => whnf)
   exact ⟨he ▸ rfl, rfl⟩
noncomputable def sizQ (p : Pro) (q : Prp) (s : Siz) : Int := if propE p q ≠ 0 then propE p q else sizeE p s
theorem sizedPropertyR (p : Pro) (q : Prp) (s : Siz) (hp : ¬ bigP p) (hq : ¬ bigQ q) : PSpec Tryz.prog 24 [.agg (encP p), .agg (encQ q), .agg (encZ s)] (fun u => u = .int .i64 (sizQ p q s)) := by
 have he := sizQ.eq_1 p q s
 refine PSpec.intro tt_ok mx_ok Tryz.func24 rfl (by decide) ?_; (conv => whnf)
 refine boxP rfl ?_
 conv => whnf
 refine boxP rfl ?_
 conv => whnf
 refine boxP rfl ?_
 conv => whnf
 (refine oP (propertyR p q (okP_of hp) (okQ_of hq)) ?_; conv => whnf)
 refine cmpI ?_ ?_ <;> (intro h1; conv => whnf)
 ·rw [if_pos h1] at he; exact ⟨he ▸ rfl, rfl⟩
 ·rw [if_neg h1] at he
  (refine oP (sizedR p s hp) ?_; conv => whnf)
  exact ⟨he ▸ rfl, rfl⟩
def avO : Option (List Int) → AV
 |none => .nilsl
 |some l => .sl 0 encI l
def encO (o : Option (List Int)) : List AV := [avO o]
def rowO (l : List (Option (List Int))) : Blk := .row 24 none encO l
def extL (out : List (List Int)) (c : List Int) : List (List Int) := out.flatMap fun h => c.map fun x => h ++ [x]
def prodK (ch : Nat → List Int) : Nat → List (List Int)
 |0 => [[]]
 |k + 1 => extL (prodK ch k) (ch k)
theorem getL {l : List (List Int)} {k : Nat} (h : k < l.length) : l.getD k [] = l[k] := by
 rw [gD, gL h]; rfl
theorem getN {l : List Int} {k : Nat} (h : k < l.length) : l.getD k 0 = l[k] := by
 rw [gD, gL h]; rfl
theorem extL_take {out : List (List Int)} {c : List Int} {a : Nat} (h : a < out.length) : extL (out.take (a + 1)) c = extL (out.take a) c ++ c.map fun x => out.getD a [] ++ [x] := by
 unfold extL
 rw [List.take_succ_eq_append_getElem h, List.flatMap_append, getL h]
 simp
theorem mapN_take {c : List Int} {h : List Int} {b : Nat} (hb : b < c.length) : (c.take (b + 1)).map (fun x => h ++ [x]) = (c.take b).map (fun x => h ++ [x]) ++ [h ++ [c.getD b 0]] := by
 rw [List.take_succ_eq_append_getElem hb, List.map_append, getN hb]
 rfl
theorem extL_len : ∀ (out : List (List Int)) (c : List Int), (extL out c).length = out.length * c.length
 |[], c => by simp [extL]
 |h :: out, c => by
  have ih := extL_len out c
  unfold extL at ih ⊢
  rw [List.flatMap_cons, List.length_append, ih, List.length_map, List.length_cons, Nat.add_mul, Nat.one_mul, Nat.add_comm]
theorem ext_part {out : List (List Int)} {c : List Int} {a b m : Nat} (ha : a < out.length) (hb : b < c.length) (hm : (extL out c).length ≤ m) {h : List Int} : (extL (out.take a) c ++ (c.take b).map fun x => h ++ [x]).length < m := by
 rw [List.length_append, extL_len, List.length_map, List.length_take, List.length_take]
 rw [extL_len] at hm
 have h1 : (a + 1) * c.length ≤ out.length * c.length := Nat.mul_le_mul_right _ (by omega)
 rw [Nat.add_mul, Nat.one_mul] at h1
 rw [show min a out.length = a by omega, show min b c.length = b by omega]
 omega
theorem productF (cs : List (Option (List Int))) (ch : Nat → List Int) (hcs : ∀ k, k < cs.length → cs.getD k none = some (ch k)) (hb : ∀ k, k ≤ cs.length → (prodK ch k).length ≤ 4000) (hch : ∀ k, k < cs.length → (ch k).length ≤ 60) (hl : cs.length ≤ 8) (hd : ∀ k, k ≤ cs.length → ∀ w ∈ prodK ch k, w.length ≤ 8) : PSpec Tryz.prog 112 [.sl none encO cs] (fun u => u = .sl [] encL (prodK ch cs.length)) := by
 refine PSpec.intro tt_ok mx_ok Tryz.func112 rfl (by decide) ?_; (conv => whnf)
 refine bldI 0 encI [] rfl ?_
 conv => whnf
 refine bldI [] encL [[]] rfl ?_
 conv => whnf
 refine WPc.loopF tt_ok mx_ok (fun k : Nat => k ≤ cs.length) (fun k => [(15, .int .i64 (k : Int)), (11, .top), (12, .top), (3, .row 1000 (prodK ch k).length 1)]) (fun k => [(1000, rowL (prodK ch k))]) (fun k => cs.length - k) 0 (Nat.zero_le _) ?_; conv => whnf
 refine ⟨Sub.by_ [(1000, .old 12)] _ 400 rfl (auto_) (auto_), ?_⟩
 rintro k hk
 conv => whnf
 refine cmpI ?_ ?_ <;> (intro g1; conv => whnf)
 ·have hc := hch k (by omega)
  have hm := hb (k + 1) (by omega)
  have hw := hd k (by omega)
  have hm0 := hb k (by omega)
  have hpk : prodK ch (k + 1) = extL (prodK ch k) (ch k) := rfl
  rw [hpk] at hm
  refine nI ?_
  rw [tN, hcs k (by omega)]
  generalize hO : prodK ch k = out at hm hw hm0 hpk
  generalize ch k = c at hc hm hpk
  conv => whnf
  refine WPc.loopF tt_ok mx_ok (fun a : Nat => a ≤ out.length) (fun a => [(21, .int .i64 (a : Int)), (6, .row 1001 (extL (out.take a) c).length 1)]) (fun a => [(1000, rowL out), (1001, rowL (extL (out.take a) c))]) (fun a => out.length - a) 0 (Nat.zero_le _) ?_; conv => whnf
  refine ⟨Sub.by_ [(1000, .old 1000), (1001, .nil 1)] _ 400 rfl (auto_) (auto_), ?_⟩
  rintro a ha
  conv => whnf
  refine cmpI ?_ ?_ <;> (intro g2; conv => whnf)
  ·have hwa : (out.getD a []).length ≤ 8 := by
    rw [getL (by omega)]; exact hw _ (List.getElem_mem _)
   have hup := extL_take (c := c) (show a < out.length by omega)
   refine nI ?_
   rw [tN]
   conv => whnf
   generalize out.getD a [] = h at hwa hup ⊢
   have hz0 : (List.map (fun x => h ++ [x]) (List.take 0 c)).length = 0 := by simp
   refine WPc.loopF tt_ok mx_ok (fun b : Nat => b ≤ c.length) (fun b => [(27, .int .i64 (b : Int)), (6, .row 1001 (extL (out.take a) c ++ (c.take b).map fun x => h ++ [x]).length 1)]) (fun b => [(1000, rowL out), (1001, rowL (extL (out.take a) c ++ (c.take b).map fun x => h ++ [x]))]) (fun b => c.length - b) 0 (Nat.zero_le _) ?_; conv => whnf
   refine ⟨Sub.id_ 400 rfl ⟨rfl, by show Blk.row _ _ _ _ = Blk.row _ _ _ _; simp, trivial⟩ (auto_), ?_⟩
   rintro b hbb
   conv => whnf
   refine cmpI ?_ ?_ <;> (intro g3; conv => whnf)
   ·have hlt := ext_part (h := h) (show a < out.length by omega) (show b < c.length by omega) hm
    have hup2 := mapN_take (h := h) (show b < c.length by omega)
    have hz1 : (List.map (fun x => h ++ [x]) (List.take (b + 1) c)).length = (List.map (fun x => h ++ [x]) (List.take b c)).length + 1 := by rw [hup2]; simp
    refine nI ?_
    rw [tN]
    conv => whnf
    refine needI ⟨rfl, rfl⟩ ?_
    conv => whnf
    refine needI (Nat.succ_pos _) ?_
    conv => whnf
    refine appI [c.getD b 0] rfl lI ?_
    conv => whnf
    refine bldI [] encL [h ++ [c.getD b 0]] rfl ?_
    conv => whnf
    refine appI [h ++ [c.getD b 0]] rfl lI ?_
    rw [List.append_assoc, ← hup2]
    conv => whnf
    repeat' ((first|refine nI ?_|refine aI ?_|refine tI ?_|refine fI ?_|fail);conv => whnf)
    exact ⟨b + 1, Sub.by_ [(1000, .old 1000), (1001, .old 42)] _ 400 rfl (auto_) (auto_), by omega, by dsimp only; omega⟩
   ·obtain rfl : b = c.length := by omega
    rw [List.take_length, ← hup]
    repeat' ((first|refine nI ?_|refine aI ?_|refine tI ?_|refine fI ?_|fail);conv => whnf)
    exact ⟨a + 1, sI, by omega, by dsimp only; omega⟩
  ·obtain rfl : a = out.length := by omega
   rw [List.take_length, ← hpk]
   repeat' ((first|refine nI ?_|refine aI ?_|refine tI ?_|refine fI ?_|fail);conv => whnf)
   exact ⟨k + 1, Sub.by_ [(1000, .old 1001)] _ 400 rfl (auto_) (auto_), by omega, by dsimp only; omega⟩
 ·obtain rfl : k = cs.length := by omega
  exact ⟨rfl, rfl⟩
def totN (F : Nat) (ch : Nat → List Int) : Nat → Nat
 |0 => F
 |k + 1 => totN F ch k * (ch k).length
def iniB (F : Nat) (ch : Nat → List Int) (n : Nat) : Prop := ∀ k, k < n → totN F ch (k + 1) ≤ 4000
noncomputable instance decIni (F : Nat) (ch : Nat → List Int) (n : Nat) : Decidable (iniB F ch n) := Classical.propDecidable _
def cfgI (p : Pro) (s : Siz) (sh st : List Int) : Cfg := ⟨sh, st, s.n - s.f, List.replicate p.messages.length 0, List.replicate p.messages.length 0, 0⟩
def iniL (p : Pro) (s : Siz) (forms words : List (List Int)) : List Cfg := forms.flatMap fun sh => words.map fun st => cfgI p s sh st
def iniF (p : Pro) (s : Siz) : List (List Int) := if p.topology = 4 then shpT s.n.toNat else [[]]
noncomputable def iniA (p : Pro) (q : Prp) (s : Siz) : AV := if iniB (iniF p s).length (chF p q s) (modN p s).toNat then rpA (iniL p s (iniF p s) (prodK (chF p q s) (modN p s).toNat)) 0 else rpA [] 4
theorem totN_mul (F : Nat) (ch : Nat → List Int) : ∀ k, totN F ch k = F * totN 1 ch k
 |0 => by simp [totN]
 |k + 1 => by simp only [totN]; rw [totN_mul F ch k, Nat.mul_assoc]
theorem prod_tot (ch : Nat → List Int) : ∀ k, (prodK ch k).length = totN 1 ch k
 |0 => rfl
 |k + 1 => by simp only [prodK, totN]; rw [extL_len, prod_tot ch k]
theorem tot_le {F n k : Nat} {ch : Nat → List Int} (hF : F ≤ 5) (hk : k ≤ n) (ha : ∀ j, j < k → totN F ch (j + 1) ≤ 4000) : totN F ch k ≤ 4000 := by
 cases k with
 |zero => simp only [totN]; omega
 |succ k => exact ha k (by omega)
theorem prod_le {F n : Nat} {ch : Nat → List Int} (h0 : 1 ≤ F) (h1 : F ≤ 5) (h : iniB F ch n) : ∀ k, k ≤ n → (prodK ch k).length ≤ 4000 ∧ F * (prodK ch k).length ≤ 4000 := by
 intro k hk
 have ht : totN F ch k ≤ 4000 := tot_le h1 hk (fun j hj => h j (by omega))
 rw [totN_mul] at ht
 rw [prod_tot]
 have := Nat.le_mul_of_pos_left (totN 1 ch k) (show 0 < F by omega)
 omega
theorem prod_word (ch : Nat → List Int) : ∀ k, ∀ w ∈ prodK ch k, w.length = k
 |0, w, h => by simp only [prodK, List.mem_singleton] at h; subst h; rfl
 |k + 1, w, h => by
  simp only [prodK, extL, List.mem_flatMap, List.mem_map] at h
  obtain ⟨a, ha, x, _, rfl⟩ := h
  have := prod_word ch k a ha
  simp; omega
theorem chF_len {p : Pro} {q : Prp} (hp : ¬ bigP p) (hq : ¬ bigQ q) (s : Siz) (k : Nat) : (chF p q s k).length ≤ 60 := by
 have hle := bigP_le hp
 have hlq := bigQ_le hq
 unfold chF stL
 (repeat' split) <;> omega
theorem shpT_len1 : ∀ m, m ≤ 3 → 1 ≤ (shpT (2 * m + 1)).length := by decide
theorem tree_odd {p : Pro} {s : Siz} (h : sizeE p s = 0) (ht : p.topology = 4) : ∃ m, m ≤ 3 ∧ s.n = ((2 * m + 1 : Nat) : Int) := by
 have h1 := sizeE_ok h
 have h2 : ¬ (p.topology = 4 ∧ s.n.tmod 2 = 0) := h1.2.1.2.2.1
 have h3 : s.n.tmod 2 = s.n % 2 := Int.tmod_eq_emod_of_nonneg (by omega)
 refine ⟨(s.n.toNat - 1) / 2, by omega, by omega⟩
theorem getO {n k : Nat} {g : Nat → List Int} (h : k < n) : ((List.range n).map fun i => some (g i)).getD k none = some (g k) := by
 rw [gD, List.getElem?_map, List.getElem?_range h]; rfl
theorem fillO {n k : Nat} (g : Nat → List Int) (h : k < n) : (((List.range k).map fun i => some (g i)) ++ List.replicate (n - k) none).set k (some (g k)) = ((List.range (k + 1)).map fun i => some (g i)) ++ List.replicate (n - (k + 1)) none := by
 rw [List.set_append_right _ _ (by simp), List.length_map, List.length_range, Nat.sub_self, List.range_succ, List.map_append, List.append_assoc]
 congr 1
 rw [show n - k = (n - (k + 1)) + 1 by omega, List.replicate_succ]
 rfl
theorem iniL_take {p : Pro} {s : Siz} {forms W : List (List Int)} {a : Nat} (h : a < forms.length) : iniL p s (forms.take (a + 1)) W = iniL p s (forms.take a) W ++ W.map (cfgI p s (forms.getD a [])) := by
 unfold iniL
 rw [List.take_succ_eq_append_getElem h, List.flatMap_append, getL h]
 simp
theorem mapW_take {p : Pro} {s : Siz} {sh : List Int} {W : List (List Int)} {b : Nat} (h : b < W.length) : (W.take (b + 1)).map (cfgI p s sh) = (W.take b).map (cfgI p s sh) ++ [cfgI p s sh (W.getD b [])] := by
 rw [List.take_succ_eq_append_getElem h, List.map_append, getL h]
 rfl
theorem iniL_len (p : Pro) (s : Siz) : ∀ (forms W : List (List Int)), (iniL p s forms W).length = forms.length * W.length
 |[], W => by simp [iniL]
 |h :: forms, W => by
  have ih := iniL_len p s forms W
  unfold iniL at ih ⊢
  rw [List.flatMap_cons, List.length_append, ih, List.length_map, List.length_cons, Nat.add_mul, Nat.one_mul, Nat.add_comm]
theorem ini_part {p : Pro} {s : Siz} {forms W : List (List Int)} {sh : List Int} {a b : Nat} (ha : a < forms.length) (hb : b < W.length) (hm : forms.length * W.length ≤ 4000) : (iniL p s (forms.take a) W ++ (W.take b).map (cfgI p s sh)).length < 4000 := by
 rw [List.length_append, iniL_len, List.length_map, List.length_take, List.length_take]
 have h1 : (a + 1) * W.length ≤ forms.length * W.length := Nat.mul_le_mul_right _ (by omega)
 rw [Nat.add_mul, Nat.one_mul] at h1
 rw [show min a forms.length = a by omega, show min b W.length = b by omega]
 omega
theorem initialF (p : Pro) (q : Prp) (s : Siz) (hp : ¬ bigP p) (hq : ¬ bigQ q) (hv : propE p q = 0) (hz : sizeE p s = 0) : PSpec Tryz.prog 68 [.agg (encP p), .agg (encQ q), .agg (encZ s)] (rpU (iniA p q s)) := by
 have hle := bigP_le hp
 have hsz := sizeE_ok hz
 obtain ⟨n, hn⟩ : ∃ n : Nat, modN p s = n := ⟨(modN p s).toNat, by unfold modN; split <;> omega⟩
 have hn8 : n ≤ 8 := by unfold modN at hn; split at hn <;> omega
 have hM := modeledF p s (by omega)
 rw [hn] at hM
 refine PSpec.intro tt_ok mx_ok Tryz.func68 rfl (by decide) ?_; (conv => whnf)
 refine boxP rfl ?_
 conv => whnf
 refine boxP rfl ?_
 conv => whnf
 refine boxP rfl ?_
 conv => whnf
 (refine oP (startsF p q hp hq hv) ?_; conv => whnf)
 (refine oP (hM) ?_; conv => whnf)
 refine mkI none encO none rfl (by dsimp only; omega) ?_
 rw [tN]
 conv => whnf
 refine WPc.loopF tt_ok mx_ok (fun k : Nat => k ≤ n) (fun k => [(33, .int .i64 (k : Int))]) (fun k => [(30, rowO (((List.range k).map fun i => some (chF p q s i)) ++ List.replicate (n - k) none))]) (fun k => n - k) 0 (Nat.zero_le _) ?_; conv => whnf
 refine ⟨Sub.id_ 400 rfl ⟨by show Blk.row _ _ _ _ = Blk.row _ _ _ _; simp, trivial⟩ (auto_), ?_⟩
 rintro k hk
 conv => whnf
 refine cmpI ?_ ?_ <;> (intro g1; conv => whnf)
 ·have hf := fillO (chF p q s) (show k < n by omega)
  have he := chF.eq_1 p q s k
  by_cases h1 : k = 0 ∧ 0 < p.leader.length
  ·rw [if_pos h1] at he
   repeat' ((first|refine nI ?_|refine aI ?_|refine tI ?_|refine fI ?_|fail);conv => whnf)
   refine rowSetI (some p.leader) rfl ?_
   rw [tN, ← he, hf]
   conv => whnf
   repeat' ((first|refine nI ?_|refine aI ?_|refine tI ?_|refine fI ?_|fail);conv => whnf)
   exact ⟨k + 1, sI, by omega, by dsimp only; omega⟩
  rw [if_neg h1] at he
  by_cases h2 : (k : Int) < s.n - s.f
  ·rw [if_pos h2] at he
   by_cases h3 : k = 0
   all_goals
    repeat' ((first|refine nI ?_|refine aI ?_|refine tI ?_|refine fI ?_|fail);conv => whnf)
    refine rowSetI (some (stL p q)) rfl ?_
    rw [tN, ← he, hf]
    conv => whnf
    repeat' ((first|refine nI ?_|refine aI ?_|refine tI ?_|refine fI ?_|fail);conv => whnf)
    exact ⟨k + 1, sI, by omega, by dsimp only; omega⟩
  ·rw [if_neg h2] at he
   by_cases h3 : k = 0
   all_goals
    repeat' ((first|refine nI ?_|refine aI ?_|refine tI ?_|refine fI ?_|fail);conv => whnf)
    refine rowSetI (some p.initial) rfl ?_
    rw [tN, ← he, hf]
    conv => whnf
    repeat' ((first|refine nI ?_|refine aI ?_|refine tI ?_|refine fI ?_|fail);conv => whnf)
    exact ⟨k + 1, sI, by omega, by dsimp only; omega⟩
 obtain rfl : n = k := by omega
 rw [Nat.sub_self, List.replicate_zero, List.append_nil]
 by_cases hT : p.topology = 4
 case pos =>
  obtain ⟨m, hm, hsn⟩ := tree_odd hz hT
  have hF0 := shpT_len1 m hm
  have hF1 := (shpT_le (n := 2 * m + 1) (by omega)).1
  have hF2 := (shpT_le (n := 2 * m + 1) (by omega)).2
  have hS := shapesOdd m hm
  rw [← hsn] at hS
  refine bldI none encO [none] rfl ?_
  conv => whnf
  repeat' ((first|refine nI ?_|refine aI ?_|refine tI ?_|refine fI ?_|fail);conv => whnf)
  (refine oP (hS) ?_; conv => whnf)
  have hform : iniF p s = (shpT (2 * m + 1)) := by unfold iniF; rw [if_pos hT]; rw [hsn]; rfl
  have he : iniA p q s = if iniB (shpT (2 * m + 1)).length (chF p q s) n then rpA (iniL p s (shpT (2 * m + 1)) (prodK (chF p q s) n)) 0 else rpA [] 4 := by
   unfold iniA; rw [hform, hn]; rfl
  refine WPc.loopF tt_ok mx_ok (fun k : Nat => k ≤ n ∧ ∀ j, j < k → totN (shpT (2 * m + 1)).length (chF p q s) (j + 1) ≤ 4000) (fun k => [(79, .int .i64 (k : Int)), (68, .top), (13, .int .i64 (totN (shpT (2 * m + 1)).length (chF p q s) k : Int))]) (fun k => [(30, rowO ((List.range n).map fun i => some (chF p q s i)))]) (fun k => n - k) 0 ⟨by omega, fun j hj => by omega⟩ ?_; conv => whnf
  refine ⟨sI, ?_⟩
  rintro k ⟨hk, ha⟩
  conv => whnf
  refine cmpI ?_ ?_ <;> (intro g1; conv => whnf)
  ·have hck := chF_len hp hq s k
   have htk : totN (shpT (2 * m + 1)).length (chF p q s) k ≤ 4000 := tot_le hF1 hk ha
   have hmul := Nat.mul_le_mul htk hck
   have hup : totN (shpT (2 * m + 1)).length (chF p q s) (k + 1) = totN (shpT (2 * m + 1)).length (chF p q s) k * (chF p q s k).length := rfl
   refine needI (by first | omega | (simp only [List.length_map, List.length_range]; omega)) ?_
   conv => whnf
   rw [tN, getO (by omega)]
   conv => whnf
   rw [← Int.natCast_mul, ← hup]
   refine aI ?_
   conv => whnf
   refine cmpI ?_ ?_ <;> (intro g2; conv => whnf)
   ·rw [if_neg (fun hb => by have := hb k (by omega); omega)] at he
    exact ⟨.inr ⟨4, rfl, he⟩, rfl⟩
   ·repeat' ((first|refine nI ?_|refine aI ?_|refine tI ?_|refine fI ?_|fail);conv => whnf)
    refine ⟨k + 1, sI, ⟨by omega, fun j hj => ?_⟩, by dsimp only; omega⟩
    by_cases e : j = k
    ·subst e; omega
    ·exact ha j (by omega)
  have hB : iniB (shpT (2 * m + 1)).length (chF p q s) n := fun j hj => ha j (by omega)
  rw [if_pos hB] at he
  have hpl := prod_le (F := (shpT (2 * m + 1)).length) (ch := chF p q s) hF0 (by omega) hB
  have hpw := prod_word (chF p q s)
  have hcl : ((List.range n).map fun i => some (chF p q s i)).length = n := by simp
  have hP := productF ((List.range n).map fun i => some (chF p q s i)) (chF p q s) (fun k hk => getO (by omega)) (fun k hk => (hpl k (by omega)).1) (fun k hk => chF_len hp hq s k) (by omega) (fun k hk w hw => by have := hpw k w hw; omega)
  rw [hcl] at hP
  have hwl := (hpl n (Nat.le_refl n)).2
  have hwn := hpw n
  have hw4 := (hpl n (Nat.le_refl n)).1
  generalize prodK (chF p q s) n = W at hP hwl hwn he hw4
  generalize hC : ((List.range n).map fun i => some (chF p q s i)) = C at hP
  refine WPc.loopF tt_ok mx_ok (fun a : Nat => a ≤ (shpT (2 * m + 1)).length) (fun a => [(92, .int .i64 (a : Int)), (16, .row 1000 (iniL p s ((shpT (2 * m + 1)).take a) W).length 6), (10, .sl none encO C), (30, .sl none encO C), (31, .sl none encO C), (77, .sl none encO C)]) (fun a => [(1000, rowC (iniL p s ((shpT (2 * m + 1)).take a) W))]) (fun a => (shpT (2 * m + 1)).length - a) 0 (Nat.zero_le _) ?_; conv => whnf
  refine ⟨Sub.leak 30 rfl (Sub.by_ [(1000, .nil 6)] _ 400 rfl (auto_) (auto_)), ?_⟩
  rintro a ha
  conv => whnf
  refine cmpI ?_ ?_ <;> (intro g2; conv => whnf)
  ·have hup := iniL_take (p := p) (s := s) (W := W) (show a < (shpT (2 * m + 1)).length by omega)
   refine nI ?_
   rw [tN]
   have hsh : ((shpT (2 * m + 1)).getD a []).length ≤ 8 := by rw [getL (by omega)]; exact hF2 _ (List.getElem_mem _)
   generalize (shpT (2 * m + 1)).getD a [] = sh at hsh hup
   conv => whnf
   have hz0 : (List.map (cfgI p s sh) (List.take 0 W)).length = 0 := by simp
   (refine oP (hP) ?_; conv => whnf)
   refine WPc.loopF tt_ok mx_ok (fun b : Nat => b ≤ W.length) (fun b => [(99, .int .i64 (b : Int)), (16, .row 1000 (iniL p s ((shpT (2 * m + 1)).take a) W ++ (W.take b).map (cfgI p s sh)).length 6), (18, .sl 0 encI sh)]) (fun b => [(1000, rowC (iniL p s ((shpT (2 * m + 1)).take a) W ++ (W.take b).map (cfgI p s sh)))]) (fun b => W.length - b) 0 (Nat.zero_le _) ?_; conv => whnf
   refine ⟨Sub.id_ 400 rfl ⟨by show Blk.row _ _ _ _ = Blk.row _ _ _ _; simp, trivial⟩ (auto_), ?_⟩
   rintro b hb
   conv => whnf
   refine cmpI ?_ ?_ <;> (intro g3; conv => whnf)
   ·have hlt := ini_part (p := p) (s := s) (sh := sh) (show a < (shpT (2 * m + 1)).length by omega) (show b < W.length by omega) hwl
    have hup2 := mapW_take (p := p) (s := s) (sh := sh) (show b < W.length by omega)
    have hz1 : (List.map (cfgI p s sh) (List.take (b + 1) W)).length = (List.map (cfgI p s sh) (List.take b W)).length + 1 := by rw [hup2]; simp
    refine nI ?_
    rw [tN]
    conv => whnf
    refine drawF (by decide +kernel) ?_
    conv => whnf
    refine nI ?_
    conv => whnf
    refine aI ?_
    conv => whnf
    refine mkI 0 encI 0 rfl (by dsimp only; omega) ?_
    conv => whnf
    refine mkI 0 encI 0 rfl (by dsimp only; omega) ?_
    rw [tN]
    conv => whnf
    refine bldI cfg0 encC [cfgI p s sh (W.getD b [])] rfl ?_
    conv => whnf
    refine leakN ?_
    conv => whnf
    refine appI [cfgI p s sh (W.getD b [])] rfl lI ?_
    rw [List.append_assoc, ← hup2]
    conv => whnf
    repeat' ((first|refine nI ?_|refine aI ?_|refine tI ?_|refine fI ?_|fail);conv => whnf)
    exact ⟨b + 1, Sub.by_ [(1000, .old 122)] _ 400 rfl (auto_) (auto_), by omega, by dsimp only; omega⟩
   ·obtain rfl : b = W.length := by omega
    rw [List.take_length, ← hup]
    repeat' ((first|refine nI ?_|refine aI ?_|refine tI ?_|refine fI ?_|fail);conv => whnf)
    exact ⟨a + 1, sI, by omega, by dsimp only; omega⟩
  ·obtain rfl : a = (shpT (2 * m + 1)).length := by omega
   rw [List.take_length]
   exact ⟨.inl he.symm, rfl⟩
 case neg =>
  have hF0 : 1 ≤ 1 := Nat.le_refl 1
  have hF1 : 1 ≤ 5 := by omega
  have hl1 : [([] : List Int)].length = 1 := rfl
  have hg0 : ∀ a, a < 1 → ([none] : List (Option (List Int))).getD a none = none := fun a h => by rw [show a = 0 by omega]; rfl
  refine bldI none encO [none] rfl ?_
  conv => whnf
  repeat' ((first|refine nI ?_|refine aI ?_|refine tI ?_|refine fI ?_|fail);conv => whnf)
  have hform : iniF p s = [([] : List Int)] := by unfold iniF; rw [if_neg hT]
  have he : iniA p q s = if iniB 1 (chF p q s) n then rpA (iniL p s [([] : List Int)] (prodK (chF p q s) n)) 0 else rpA [] 4 := by
   unfold iniA; rw [hform, hn]; rfl
  refine WPc.loopF tt_ok mx_ok (fun k : Nat => k ≤ n ∧ ∀ j, j < k → totN 1 (chF p q s) (j + 1) ≤ 4000) (fun k => [(79, .int .i64 (k : Int)), (13, .int .i64 (totN 1 (chF p q s) k : Int))]) (fun k => [(30, rowO ((List.range n).map fun i => some (chF p q s i))), (68, rowO [none])]) (fun k => n - k) 0 ⟨by omega, fun j hj => by omega⟩ ?_; conv => whnf
  refine ⟨sI, ?_⟩
  rintro k ⟨hk, ha⟩
  conv => whnf
  refine cmpI ?_ ?_ <;> (intro g1; conv => whnf)
  ·have hck := chF_len hp hq s k
   have htk : totN 1 (chF p q s) k ≤ 4000 := tot_le hF1 hk ha
   have hmul := Nat.mul_le_mul htk hck
   have hup : totN 1 (chF p q s) (k + 1) = totN 1 (chF p q s) k * (chF p q s k).length := rfl
   refine needI (by first | omega | (simp only [List.length_map, List.length_range]; omega)) ?_
   conv => whnf
   rw [tN, getO (by omega)]
   conv => whnf
   rw [← Int.natCast_mul, ← hup]
   refine aI ?_
   conv => whnf
   refine cmpI ?_ ?_ <;> (intro g2; conv => whnf)
   ·rw [if_neg (fun hb => by have := hb k (by omega); omega)] at he
    exact ⟨.inr ⟨4, rfl, he⟩, rfl⟩
   ·repeat' ((first|refine nI ?_|refine aI ?_|refine tI ?_|refine fI ?_|fail);conv => whnf)
    refine ⟨k + 1, sI, ⟨by omega, fun j hj => ?_⟩, by dsimp only; omega⟩
    by_cases e : j = k
    ·subst e; omega
    ·exact ha j (by omega)
  have hB : iniB 1 (chF p q s) n := fun j hj => ha j (by omega)
  rw [if_pos hB] at he
  have hpl := prod_le (F := 1) (ch := chF p q s) hF0 (by omega) hB
  have hpw := prod_word (chF p q s)
  have hcl : ((List.range n).map fun i => some (chF p q s i)).length = n := by simp
  have hP := productF ((List.range n).map fun i => some (chF p q s i)) (chF p q s) (fun k hk => getO (by omega)) (fun k hk => (hpl k (by omega)).1) (fun k hk => chF_len hp hq s k) (by omega) (fun k hk w hw => by have := hpw k w hw; omega)
  rw [hcl] at hP
  have hwl := (hpl n (Nat.le_refl n)).2
  have hwn := hpw n
  have hw4 := (hpl n (Nat.le_refl n)).1
  generalize prodK (chF p q s) n = W at hP hwl hwn he hw4
  generalize hC : ((List.range n).map fun i => some (chF p q s i)) = C at hP
  refine WPc.loopF tt_ok mx_ok (fun a : Nat => a ≤ [([] : List Int)].length) (fun a => [(92, .int .i64 (a : Int)), (16, .row 1000 (iniL p s ([([] : List Int)].take a) W).length 6), (10, .sl none encO C), (30, .sl none encO C), (31, .sl none encO C), (77, .sl none encO C)]) (fun a => [(1000, rowC (iniL p s ([([] : List Int)].take a) W)), (68, rowO [none])]) (fun a => [([] : List Int)].length - a) 0 (Nat.zero_le _) ?_; conv => whnf
  refine ⟨Sub.leak 30 rfl (Sub.by_ [(1000, .nil 6), (68, .old 68)] _ 400 rfl (auto_) (auto_)), ?_⟩
  rintro a ha
  conv => whnf
  refine cmpI ?_ ?_ <;> (intro g2; conv => whnf)
  ·have hup := iniL_take (p := p) (s := s) (W := W) (show a < [([] : List Int)].length by omega)
   refine nI ?_
   have ha0 : a = 0 := by omega
   have hsh : ([] : List Int).length ≤ 8 := by simp
   rw [show [([] : List Int)].getD a [] = [] by rw [ha0]; rfl] at hup
   conv => whnf
   rw [tN, hg0 a (by omega)]
   conv => whnf
   have hz0 : (List.map (cfgI p s ([] : List Int)) (List.take 0 W)).length = 0 := by simp
   (refine oP (hP) ?_; conv => whnf)
   refine WPc.loopF tt_ok mx_ok (fun b : Nat => b ≤ W.length) (fun b => [(99, .int .i64 (b : Int)), (16, .row 1000 (iniL p s ([([] : List Int)].take a) W ++ (W.take b).map (cfgI p s ([] : List Int))).length 6), (18, .sl 0 encI ([] : List Int))]) (fun b => [(1000, rowC (iniL p s ([([] : List Int)].take a) W ++ (W.take b).map (cfgI p s ([] : List Int)))), (68, rowO [none])]) (fun b => W.length - b) 0 (Nat.zero_le _) ?_; conv => whnf
   refine ⟨Sub.id_ 400 rfl ⟨by show Blk.row _ _ _ _ = Blk.row _ _ _ _; simp, rfl, trivial⟩ (auto_), ?_⟩
   rintro b hb
   conv => whnf
   refine cmpI ?_ ?_ <;> (intro g3; conv => whnf)
   ·have hlt := ini_part (p := p) (s := s) (sh := ([] : List Int)) (show a < [([] : List Int)].length by omega) (show b < W.length by omega) hwl
    have hup2 := mapW_take (p := p) (s := s) (sh := ([] : List Int)) (show b < W.length by omega)
    have hz1 : (List.map (cfgI p s ([] : List Int)) (List.take (b + 1) W)).length = (List.map (cfgI p s ([] : List Int)) (List.take b W)).length + 1 := by rw [hup2]; simp
    refine nI ?_
    rw [tN]
    conv => whnf
    refine drawF (by decide +kernel) ?_
    conv => whnf
    refine nI ?_
    conv => whnf
    refine aI ?_
    conv => whnf
    refine mkI 0 encI 0 rfl (by dsimp only; omega) ?_
    conv => whnf
    refine mkI 0 encI 0 rfl (by dsimp only; omega) ?_
    rw [tN]
    conv => whnf
    refine bldI cfg0 encC [cfgI p s ([] : List Int) (W.getD b [])] rfl ?_
    conv => whnf
    refine leakN ?_
    conv => whnf
    refine appI [cfgI p s ([] : List Int) (W.getD b [])] rfl lI ?_
    rw [List.append_assoc, ← hup2]
    conv => whnf
    repeat' ((first|refine nI ?_|refine aI ?_|refine tI ?_|refine fI ?_|fail);conv => whnf)
    exact ⟨b + 1, Sub.by_ [(1000, .old 122), (68, .old 68)] _ 400 rfl (auto_) (auto_), by omega, by dsimp only; omega⟩
   ·obtain rfl : b = W.length := by omega
    rw [List.take_length, ← hup]
    repeat' ((first|refine nI ?_|refine aI ?_|refine tI ?_|refine fI ?_|fail);conv => whnf)
    exact ⟨a + 1, sI, by omega, by dsimp only; omega⟩
  ·obtain rfl : a = [([] : List Int)].length := by omega
   rw [List.take_length]
   exact ⟨.inl he.symm, rfl⟩
end Go.Proofs.YtaeomngmcfdfpaaGreatDoor
