import Derived.Test.YtnjggjhkfncnlaaGreatDoorFnO
import Derived.Test.YtnjggjhkfncnlaaGreatDoorF2
set_option linter.unusedVariables false
set_option linter.unusedSimpArgs false
namespace Go.Proofs.YtnjggjhkfncnlaaGreatDoor
set_option maxRecDepth 100000
def okB (c : Nat) : Prop:=97 ≤ c ∧ c ≤ 122 ∨ 48 ≤ c ∧ c ≤ 57 ∨ c = 95
instance (c : Nat) : Decidable (okB c):=inferInstanceAs (Decidable (_ ∨ _))
def validN (s : ByteArray) : Prop:=(0 < s.size ∧ s.size ≤ 12) ∧ (97 ≤ byt s 0 ∧ byt s 0 ≤ 122) ∧ (∀ i, i < s.size → okB (byt s i)) ∧ s ∉ words
instance (s : ByteArray) : Decidable (validN s):=inferInstanceAs (Decidable (_ ∧ _))
theorem get_byt {s : ByteArray} {k : Nat} (h : k < s.size) : (s.get! (k + 0)).toNat = byt s k:=by
 unfold byt
 congr 1
theorem decode_lo {s : ByteArray} {k : Nat} (h : k < s.size) (hb : byt s k < 128) : Utf8.decode s k = (byt s k, 1):=by
 unfold Utf8.decode
 simp only [get_byt h]
 rw [if_pos hb]
theorem decode_hi {s : ByteArray} {k : Nat} (h : k < s.size) (hb : ¬ byt s k < 128) : 128 ≤ (Utf8.decode s k).1:=by
 unfold Utf8.decode
 simp only [get_byt h]
 rw [if_neg hb]
 (repeat' split) <;> simp only [Utf8.runeError, ge_iff_le, Bool.and_eq_true, decide_eq_true_eq] at * <;> omega
theorem size_eq0 {s : ByteArray} : s = t0 ↔ s.size = 0:=by
 constructor
 ·rintro rfl; rfl
 ·intro h
  cases s with | mk a =>
  have : a.size = 0:=h
  have : a = #[]:=Array.eq_empty_of_size_eq_zero this
  rw [this]; rfl
theorem validNameP (s : ByteArray) (hs : s.size ≤ 4503599627370496) : PSpec Tryz.prog 132 [.str s] (fun u=>u = .bool (decide (validN s))):=by
 refine PSpec.intro tt_ok mx_ok Tryz.func132 rfl (by decide) ?_; (conv=>whnf)
 refine cmpI (fun h1=>?_) (fun h1=>?_) <;> conv=>whnf
 ·exact ⟨dec_f (fun h=>by have:=size_eq0.1 h1; have:=h.1; omega), rfl⟩
 have h0 : s.size ≠ 0:=fun h=>h1 (size_eq0.2 h)
 refine cmpI (fun h2=>?_) (fun h2=>?_) <;> conv=>whnf
 ·exact ⟨dec_f (fun h=>by have:=h.1; omega), rfl⟩
 refine WPc.loopF tt_ok mx_ok (fun k : Nat=>k ≤ s.size ∧ ∀ j, j < k → okB (byt s j) ∧ (j = 0 → 97 ≤ byt s 0 ∧ byt s 0 ≤ 122)) (fun _=>[]) (fun k=>[(14, .iter s k)]) (fun k=>s.size - k) 0 ⟨by omega, fun j hj=>by omega⟩ ?_; conv=>whnf
 refine ⟨sI, ?_⟩
 rintro k ⟨hk, ha⟩
 conv=>whnf
 refine nextI (fun h3=>?_) (fun h3=>?_) <;> conv=>whnf
 ·by_cases hb : byt s k < 128
  ·rw [decode_lo h3 hb]
   by_cases hgood : okB (byt s k) ∧ (k = 0 → 97 ≤ byt s 0 ∧ byt s 0 ≤ 122)
   ·obtain ⟨g1, g2⟩:=hgood
    have g3 : k = 0 → byt s k = byt s 0:=fun e=>by rw [e]
    unfold okB at g1
    repeat' first | (refine at_ ?_; conv=>whnf) | (refine cmpI (fun _=>?_) (fun _=>?_) <;> conv=>whnf)
    all_goals
     refine ⟨k + 1, sI, ⟨by omega, fun j hj=>?_⟩, by dsimp only; omega⟩
     by_cases e : j = k
     ·subst e; exact ⟨g1, g2⟩
     ·exact ha j (by omega)
   ·have hbad : ¬ validN s:=fun h=>hgood ⟨h.2.2.1 k h3, fun _=>h.2.1⟩
    have g3 : k = 0 → byt s k = byt s 0:=fun e=>by rw [e]
    unfold okB at hgood
    repeat' first | (refine at_ ?_; conv=>whnf) | (refine cmpI (fun _=>?_) (fun _=>?_) <;> conv=>whnf)
    all_goals exact ⟨dec_f hbad, rfl⟩
  ·have hd:=decode_hi h3 hb
   have hbad : ¬ validN s:=fun h=>by have:=h.2.2.1 k h3; unfold okB at this; omega
   generalize Utf8.decode s k = x at hd
   obtain ⟨c, w⟩:=x
   dsimp only at hd ⊢
   repeat' first | (refine at_ ?_; conv=>whnf) | (refine cmpI (fun _=>?_) (fun _=>?_) <;> conv=>whnf)
   all_goals exact ⟨dec_f hbad, rfl⟩
 ·have hall : (∀ i, i < s.size → okB (byt s i)):=fun i hi=>(ha i (by omega)).1
  have hf:=(ha 0 (by omega)).2 rfl
  refine dC (isReservedF s) (fun _=>?_) (fun _=>?_) <;> (conv=>whnf)
  ·rename_i h; exact ⟨dec_f (fun hh=>hh.2.2.2 h), rfl⟩
  ·rename_i h; exact ⟨dec_t ⟨by omega, hf, hall, h⟩, rfl⟩
theorem reservedR : PSpec Tryz.prog 209 [] (fun u=>u = .sl t0 encT words):=by
 refine PSpec.intro tt_ok mx_ok Tryz.func209 rfl (by decide) ?_; (conv=>whnf)
 refine bldI t0 encT words rfl ?_
 conv=>whnf
 exact ⟨rfl, rfl⟩
theorem validNameR (s : ByteArray) (hs : s.size ≤ 4503599627370496) : PSpec Tryz.prog 143 [.str s] (fun u=>u = .bool (decide (validN s))):=by
 refine PSpec.intro tt_ok mx_ok Tryz.func143 rfl (by decide) ?_; (conv=>whnf)
 refine dC (withinR _ _ _) (fun _=>?_) (fun _=>?_) <;> (conv=>whnf)
 ·rename_i h0
  have e0 : ((s.data.getD (0 : Int).toNat 0).toNat : Int) = byt s 0:=rfl
  by_cases hf : 97 ≤ byt s 0 ∧ byt s 0 ≤ 122
  ·repeat' first | (refine at_ ?_; conv=>whnf) | (refine cmpI (fun _=>?_) (fun _=>?_) <;> conv=>whnf)
   refine WPc.loopF tt_ok mx_ok (fun k : Nat=>k ≤ s.size ∧ ∀ j, j < k → okB (byt s j)) (fun k=>[(3, .int .i64 (k : Int))]) (fun _=>[]) (fun k=>s.size - k) 0 ⟨by omega, fun j hj=>by omega⟩ ?_; conv=>whnf
   refine ⟨sI, ?_⟩
   rintro k ⟨hk, ha⟩
   conv=>whnf
   refine cmpI (fun h1=>?_) (fun h1=>?_) <;> conv=>whnf
   ·have ek : ((s.data.getD (k : Int).toNat 0).toNat : Int) = byt s k:=rfl
    by_cases hg : okB (byt s k)
    ·have hg':=hg
     unfold okB at hg'
     repeat' first | (refine at_ ?_; conv=>whnf) | (refine cmpI (fun _=>?_) (fun _=>?_) <;> conv=>whnf)
     all_goals
      refine ⟨k + 1, sI, ⟨by omega, fun j hj=>?_⟩, by dsimp only; omega⟩
      by_cases e : j = k
      ·subst e; exact hg
      ·exact ha j (by omega)
    ·have hbad : ¬ validN s:=fun h=>hg (h.2.2.1 k (by omega))
     unfold okB at hg
     repeat' first | (refine at_ ?_; conv=>whnf) | (refine cmpI (fun _=>?_) (fun _=>?_) <;> conv=>whnf)
     all_goals exact ⟨dec_f hbad, rfl⟩
   ·(refine oP (reservedR) ?_; conv=>whnf)
    refine dC (hasTextR words s (by decide)) (fun _=>?_) (fun _=>?_) <;> (conv=>whnf)
    ·rename_i h; exact ⟨dec_f (fun hh=>hh.2.2.2 h), rfl⟩
    ·rename_i h; exact ⟨dec_t ⟨by omega, hf, fun i hi=>ha i (by omega), h⟩, rfl⟩
  ·repeat' first | (refine at_ ?_; conv=>whnf) | (refine cmpI (fun _=>?_) (fun _=>?_) <;> conv=>whnf)
   all_goals exact ⟨dec_f (fun h=>hf h.2.1), rfl⟩
 ·rename_i h0
  exact ⟨dec_f (fun h=>h0 (by have:=h.1; omega)), rfl⟩
set_option maxRecDepth 100000
set_option maxHeartbeats 4000000
theorem firstF (l : List Int) (hl : l.length ≤ 4503599627370496) : PSpec Tryz.prog 134 [.sl 0 encI l] (fun u=>u = .int .i64 (orL l)):=by
 refine PSpec.intro tt_ok mx_ok Tryz.func134 rfl (by decide) ?_; (conv=>whnf)
 refine WPc.loopF tt_ok mx_ok (fun k : Nat=>k ≤ l.length ∧ orL l = orL (l.drop k)) (fun k=>[(7, .int .i64 (k : Int))]) (fun _=>[]) (fun k=>l.length - k) 0 ⟨by omega, rfl⟩ ?_; conv=>whnf
 refine ⟨sI, ?_⟩
 rintro k ⟨hk, he⟩
 conv=>whnf
 repeat' first | (refine at_ ?_; conv=>whnf) | (refine cmpI (fun _=>?_) (fun _=>?_) <;> conv=>whnf)
 ·rename_i h1 h2
  rw [orL_drop (by omega), if_pos (by simpa using h2)] at he
  exact ⟨av_int (by rw [he]; rfl), rfl⟩
 ·rename_i h1 h2
  rw [orL_drop (by omega), if_neg (by simpa using h2)] at he
  exact ⟨k + 1, sI, ⟨by omega, he⟩, by dsimp only; omega⟩
 ·obtain rfl : k = l.length:=by omega
  rw [List.drop_length] at he
  exact ⟨av_int he.symm, rfl⟩
theorem whenT (e : Int) : PSpec Tryz.prog 135 [.bool true, .int .i64 e] (fun u=>u = .int .i64 e):=by
 refine PSpec.intro tt_ok mx_ok Tryz.func135 rfl (by decide) ?_; (conv=>whnf)
 exact ⟨rfl, rfl⟩
theorem whenF (e : Int) : PSpec Tryz.prog 135 [.bool false, .int .i64 e] (fun u=>u = .int .i64 0):=by
 refine PSpec.intro tt_ok mx_ok Tryz.func135 rfl (by decide) ?_; (conv=>whnf)
 exact ⟨rfl, rfl⟩
def indE (i n : Int) : Int:=if i < 0 ∨ n ≤ i then 5 else 0
theorem indexF (i n : Int) : PSpec Tryz.prog 203 [.int .i64 i, .int .i64 n] (fun u=>u = .int .i64 (indE i n)):=by
 refine PSpec.intro tt_ok mx_ok Tryz.func203 rfl (by decide) ?_; (conv=>whnf)
 by_cases h : i < 0 ∨ n ≤ i
 ·rw [indE, if_pos h]
  repeat' first | (refine at_ ?_; conv=>whnf) | (refine cmpI (fun _=>?_) (fun _=>?_) <;> conv=>whnf)
  all_goals
   (refine oP (whenT 5) ?_; conv=>whnf)
   exact ⟨rfl, rfl⟩
 ·rw [indE, if_neg h]
  repeat' first | (refine at_ ?_; conv=>whnf) | (refine cmpI (fun _=>?_) (fun _=>?_) <;> conv=>whnf)
  (refine oP (whenF 5) ?_; conv=>whnf)
  exact ⟨rfl, rfl⟩
def facB (n : Int) : Prop:=-100 ≤ n ∧ n ≤ 100
instance (n : Int) : Decidable (facB n):=inferInstanceAs (Decidable (_ ∧ _))
def bndB (l : Lin) : Prop:=facB l.c ∧ facB l.n ∧ facB l.t ∧ facB l.f
instance (l : Lin) : Decidable (bndB l):=inferInstanceAs (Decidable (_ ∧ _))
theorem factorF (n : Int) : PSpec Tryz.prog 205 [.int .i64 n] (fun u=>u = .bool (decide (facB n))):=by
 refine PSpec.intro tt_ok mx_ok Tryz.func205 rfl (by decide) ?_; (conv=>whnf)
 repeat' first | (refine at_ ?_; conv=>whnf) | (refine cmpI (fun _=>?_) (fun _=>?_) <;> conv=>whnf)
 all_goals first
  | exact ⟨dec_t (by unfold facB; omega), rfl⟩
  | exact ⟨dec_f (by unfold facB; omega), rfl⟩
theorem boundedF (l : Lin) : PSpec Tryz.prog 140 [.agg (encLin l)] (fun u=>u = .bool (decide (bndB l))):=by
 refine PSpec.intro tt_ok mx_ok Tryz.func140 rfl (by decide) ?_; (conv=>whnf)
 refine boxP rfl ?_
 conv=>whnf
 refine dC (factorF _) (fun _=>?_) (fun _=>?_) <;> (conv=>whnf)
 ·refine dC (factorF _) (fun _=>?_) (fun _=>?_) <;> (conv=>whnf)
  ·refine dC (factorF _) (fun _=>?_) (fun _=>?_) <;> (conv=>whnf)
   ·refine dC (factorF _) (fun _=>?_) (fun _=>?_) <;> (conv=>whnf)
    ·exact ⟨dec_t ⟨by assumption, by assumption, by assumption, by assumption⟩, rfl⟩
    ·rename_i h; exact ⟨dec_f (fun hh=>h hh.2.2.2), rfl⟩
   ·rename_i h; exact ⟨dec_f (fun hh=>h hh.2.2.1), rfl⟩
  ·rename_i h; exact ⟨dec_f (fun hh=>h hh.2.1), rfl⟩
 ·rename_i h; exact ⟨dec_f (fun hh=>h hh.1), rfl⟩
theorem fewR (l : Lin) : PSpec Tryz.prog 158 [.agg (encLin l)] (fun u=>u = .bool (decide (bndB l))):=by
 refine PSpec.intro tt_ok mx_ok Tryz.func158 rfl (by decide) ?_; (conv=>whnf)
 refine boxP rfl ?_
 conv=>whnf
 refine dC (withinR _ _ _) (fun _=>?_) (fun _=>?_) <;> (conv=>whnf)
 ·refine dC (withinR _ _ _) (fun _=>?_) (fun _=>?_) <;> (conv=>whnf)
  ·refine dC (withinR _ _ _) (fun _=>?_) (fun _=>?_) <;> (conv=>whnf)
   ·refine dC (withinR _ _ _) (fun _=>?_) (fun _=>?_) <;> (conv=>whnf)
    ·exact ⟨dec_t ⟨by assumption, by assumption, by assumption, by assumption⟩, rfl⟩
    ·rename_i h; exact ⟨dec_f (fun hh=>h hh.2.2.2), rfl⟩
   ·rename_i h; exact ⟨dec_f (fun hh=>h hh.2.2.1), rfl⟩
  ·rename_i h; exact ⟨dec_f (fun hh=>h hh.2.1), rfl⟩
 ·rename_i h; exact ⟨dec_f (fun hh=>h hh.1), rfl⟩
def fitB (k t : Int) : Prop:=(k = 1 ∨ k = 2 ∨ k = 3) ∧ t = 1 ∨ (k = 4 ∨ k = 5) ∧ t ≠ 1
instance (k t : Int) : Decidable (fitB k t):=inferInstanceAs (Decidable (_ ∨ _))
theorem fitsF (k t : Int) : PSpec Tryz.prog 225 [.int .i64 k, .int .i64 t] (fun u=>u = .bool (decide (fitB k t))):=by
 refine PSpec.intro tt_ok mx_ok Tryz.func225 rfl (by decide) ?_; (conv=>whnf)
 repeat' first | (refine at_ ?_; conv=>whnf) | (refine cmpI (fun _=>?_) (fun _=>?_) <;> conv=>whnf)
 all_goals first
  | exact ⟨dec_t (by unfold fitB; omega), rfl⟩
  | exact ⟨dec_f (by unfold fitB; omega), rfl⟩
def surB (r : Rul) (t : Int) : Prop:=(r.kind ≠ 1 ∧ (0 < r.guards.length ∨ 0 < r.some_.length ∨ 0 < r.forall_.length ∨ 0 < r.send.length)) ∨ (r.kind ≠ 1 ∧ r.kind ≠ 2 ∧ r.kind ≠ 3 ∧ (r.read ≠ -1 ∨ r.write ≠ -1)) ∨
 (r.kind ≠ 2 ∧ r.kind ≠ 5 ∧ (r.pfrom ≠ 0 ∨ r.pto ≠ 0)) ∨ (r.kind ≠ 3 ∧ 0 < r.response.length) ∨ (r.kind ≠ 5 ∧ r.direction ≠ 0) ∨ (r.kind ≠ 4 ∧ (r.at_ ≠ 0 ∨ 0 < r.left.length ∨ 0 < r.right.length)) ∨ (0 < r.parent.length ∧ ¬ (r.kind = 4 ∧ t = 4))
instance (r : Rul) (t : Int) : Decidable (surB r t):=inferInstanceAs (Decidable (_ ∨ _))
theorem surplusF (r : Rul) (t : Int) (hr : okR r) (hf : fitB r.kind t) : PSpec Tryz.prog 226 [.agg (encR r), .int .i64 t] (fun u=>u = .bool (decide (surB r t))):=by
 have hb:=okR_le hr
 refine PSpec.intro tt_ok mx_ok Tryz.func226 rfl (by decide) ?_; (conv=>whnf)
 refine boxL ?_
 conv=>whnf
 unfold fitB at hf
 repeat' first | (refine at_ ?_; conv=>whnf) | (refine cmpI (fun _=>?_) (fun _=>?_) <;> conv=>whnf)
 all_goals first
  | exact ⟨dec_t (by unfold surB; omega), rfl⟩
  | exact ⟨dec_f (by unfold surB; omega), rfl⟩
theorem unusedR (p : Pro) (r : Rul) (hf : fitB r.kind p.topology) : PSpec Tryz.prog 233 [.agg (encP p), .agg (encR r)] (fun u=>u = .bool (decide (surB r p.topology))):=by
 refine PSpec.intro tt_ok mx_ok Tryz.func233 rfl (by decide) ?_; (conv=>whnf)
 refine boxP rfl ?_
 conv=>whnf
 refine boxP rfl ?_
 conv=>whnf
 unfold fitB at hf
 repeat' first | (refine at_ ?_; conv=>whnf) | (refine cmpI (fun _=>?_) (fun _=>?_) <;> conv=>whnf)
 all_goals first
  | exact ⟨dec_t (by unfold surB; omega), rfl⟩
  | exact ⟨dec_f (by unfold surB; omega), rfl⟩
set_option maxRecDepth 100000
set_option maxHeartbeats 4000000
theorem drop_cons' {α : Type} {l : List α} {i : Nat} (d : α) (h : i < l.length) : l.drop i = l.getD i d :: l.drop (i + 1):=by
 rw [List.drop_eq_getElem_cons h]
 simp [List.getD, h]
theorem orL_map_drop {α : Type} {l : List α} (f : α → Int) {k : Nat} (d : α) (h : k < l.length) : orL ((l.drop k).map f) = if f (l.getD k d) ≠ 0 then f (l.getD k d) else orL ((l.drop (k + 1)).map f):=by
 rw [drop_cons' d h]; rfl
def coefE (c : Int) : Int:=if c < 1 ∨ 100 < c then 1 else 0
def bndE (l : Lin) : Int:=if bndB l then 0 else 4
def gE (m : Int) (g : Thr) : Int:=orL [indE g.message m, coefE g.coef, bndE g.bound]
def guardsE (m : Int) (l : List Thr) : Int:=if orL (l.map (gE m)) ≠ 0 then orL (l.map (gE m)) else if 2 < l.length then 4 else 0
theorem guardsF (p : Pro) (l : List Thr) (hl : l.length ≤ 4503599627370496) : PSpec Tryz.prog 227 [.agg (encP p), .sl thr0 encThr l] (fun u=>u = .int .i64 (guardsE p.messages.length l)):=by
 refine PSpec.intro tt_ok mx_ok Tryz.func227 rfl (by decide) ?_; (conv=>whnf)
 refine boxP rfl ?_
 conv=>whnf
 refine WPc.loopF tt_ok mx_ok (fun k : Nat=>k ≤ l.length ∧ orL (l.map (gE p.messages.length)) = orL ((l.drop k).map (gE p.messages.length))) (fun k=>[(10, .int .i64 (k : Int))]) (fun _=>[]) (fun k=>l.length - k) 0 ⟨by omega, rfl⟩ ?_; conv=>whnf
 refine ⟨sI, ?_⟩
 rintro k ⟨hk, he⟩
 conv=>whnf
 refine cmpI (fun h1=>?_) (fun h1=>?_) <;> conv=>whnf
 ·rw [orL_map_drop _ thr0 (by omega)] at he
  refine nI ?_
  rw [tN]
  generalize l.getD k thr0 = g at he
  conv=>whnf
  refine dI ?_
  conv=>whnf
  (refine oC (indexF g.message p.messages.length) ?_; conv=>whnf)
  have fin : ∀ c : Int, c = coefE g.coef → ∀ b : Int, b = bndE g.bound → orL [indE g.message p.messages.length, c, b] = gE p.messages.length g:=by rintro c rfl b rfl; rfl
  by_cases hc : g.coef < 1 ∨ 100 < g.coef
  ·have ec : (1 : Int) = coefE g.coef:=by rw [coefE, if_pos hc]
   repeat' first | (refine at_ ?_; conv=>whnf) | (refine cmpI (fun _=>?_) (fun _=>?_) <;> conv=>whnf)
   all_goals
    (refine oC (whenT 1) ?_; conv=>whnf)
    refine dD (boundedF g.bound) (fun _=>?_) (fun _=>?_) <;> (conv=>whnf)
    ·rename_i hb
     have eb : (0 : Int) = bndE g.bound:=by rw [bndE, if_pos hb]
     (refine oC (whenF 4) ?_; conv=>whnf)
     refine leakY ?_
     conv=>whnf
     (refine oC (firstF _ (by simp)) ?_; conv=>whnf)
     rw [fin _ ec _ eb]
     refine cmpI (fun h2=>?_) (fun h2=>?_) <;> conv=>whnf
     ·rw [if_pos h2] at he
      exact ⟨av_int (by rw [guardsE, he, if_pos h2]), rfl⟩
     ·rw [if_neg h2] at he
      repeat' first | (refine at_ ?_; conv=>whnf) | (refine cmpI (fun _=>?_) (fun _=>?_) <;> conv=>whnf)
      exact ⟨k + 1, sI, ⟨by omega, he⟩, by dsimp only; omega⟩
    ·rename_i hb
     have eb : (4 : Int) = bndE g.bound:=by rw [bndE, if_neg hb]
     (refine oC (whenT 4) ?_; conv=>whnf)
     refine leakY ?_
     conv=>whnf
     (refine oC (firstF _ (by simp)) ?_; conv=>whnf)
     rw [fin _ ec _ eb]
     refine cmpI (fun h2=>?_) (fun h2=>?_) <;> conv=>whnf
     ·rw [if_pos h2] at he
      exact ⟨av_int (by rw [guardsE, he, if_pos h2]), rfl⟩
     ·rw [if_neg h2] at he
      repeat' first | (refine at_ ?_; conv=>whnf) | (refine cmpI (fun _=>?_) (fun _=>?_) <;> conv=>whnf)
      exact ⟨k + 1, sI, ⟨by omega, he⟩, by dsimp only; omega⟩
  ·have ec : (0 : Int) = coefE g.coef:=by rw [coefE, if_neg hc]
   repeat' first | (refine at_ ?_; conv=>whnf) | (refine cmpI (fun _=>?_) (fun _=>?_) <;> conv=>whnf)
   (refine oC (whenF 1) ?_; conv=>whnf)
   refine dD (boundedF g.bound) (fun _=>?_) (fun _=>?_) <;> (conv=>whnf)
   ·rename_i hb
    have eb : (0 : Int) = bndE g.bound:=by rw [bndE, if_pos hb]
    (refine oC (whenF 4) ?_; conv=>whnf)
    refine leakY ?_
    conv=>whnf
    (refine oC (firstF _ (by simp)) ?_; conv=>whnf)
    rw [fin _ ec _ eb]
    refine cmpI (fun h2=>?_) (fun h2=>?_) <;> conv=>whnf
    ·rw [if_pos h2] at he
     exact ⟨av_int (by rw [guardsE, he, if_pos h2]), rfl⟩
    ·rw [if_neg h2] at he
     repeat' first | (refine at_ ?_; conv=>whnf) | (refine cmpI (fun _=>?_) (fun _=>?_) <;> conv=>whnf)
     exact ⟨k + 1, sI, ⟨by omega, he⟩, by dsimp only; omega⟩
   ·rename_i hb
    have eb : (4 : Int) = bndE g.bound:=by rw [bndE, if_neg hb]
    (refine oC (whenT 4) ?_; conv=>whnf)
    refine leakY ?_
    conv=>whnf
    (refine oC (firstF _ (by simp)) ?_; conv=>whnf)
    rw [fin _ ec _ eb]
    refine cmpI (fun h2=>?_) (fun h2=>?_) <;> conv=>whnf
    ·rw [if_pos h2] at he
     exact ⟨av_int (by rw [guardsE, he, if_pos h2]), rfl⟩
    ·rw [if_neg h2] at he
     repeat' first | (refine at_ ?_; conv=>whnf) | (refine cmpI (fun _=>?_) (fun _=>?_) <;> conv=>whnf)
     exact ⟨k + 1, sI, ⟨by omega, he⟩, by dsimp only; omega⟩
 ·obtain rfl : k = l.length:=by omega
  rw [List.drop_length] at he
  have h0 : orL (l.map (gE p.messages.length)) = 0:=he
  refine cmpI (fun h2=>?_) (fun h2=>?_) <;> conv=>whnf
  ·(refine oP (whenT 4) ?_; conv=>whnf)
   exact ⟨av_int (by rw [guardsE, h0, if_neg (by simp), if_pos (by omega)]), rfl⟩
  ·(refine oP (whenF 4) ?_; conv=>whnf)
   exact ⟨av_int (by rw [guardsE, h0, if_neg (by simp), if_neg (by omega)]), rfl⟩
def respE (l : List Int) (n : Int) : Int:=if (l.length : Int) ≠ n then 1 else if inR l n then 0 else 5
theorem responsesF (l : List Int) (n : Int) (hl : l.length ≤ 4503599627370496) : PSpec Tryz.prog 229 [.sl 0 encI l, .int .i64 n] (fun u=>u = .int .i64 (respE l n)):=by
 refine PSpec.intro tt_ok mx_ok Tryz.func229 rfl (by decide) ?_; (conv=>whnf)
 refine cmpI (fun h0=>?_) (fun h0=>?_) <;> conv=>whnf
 ·exact ⟨av_int (by rw [respE, if_pos h0]), rfl⟩
 refine WPc.loopF tt_ok mx_ok (fun k : Nat=>k ≤ l.length ∧ ∀ j, j < k → 0 ≤ l.getD j 0 ∧ l.getD j 0 < n) (fun k=>[(14, .int .i64 (k : Int))]) (fun _=>[]) (fun k=>l.length - k) 0 ⟨by omega, fun j hj=>by omega⟩ ?_; conv=>whnf
 refine ⟨sI, ?_⟩
 rintro k ⟨hk, ha⟩
 conv=>whnf
 refine cmpI (fun h1=>?_) (fun h1=>?_) <;> conv=>whnf
 ·refine nI ?_
  rw [tN]
  conv=>whnf
  (refine oP (indexF _ _) ?_; conv=>whnf)
  by_cases hb : l.getD k 0 < 0 ∨ n ≤ l.getD k 0
  ·rw [indE, if_pos hb]
   repeat' first | (refine at_ ?_; conv=>whnf) | (refine cmpI (fun _=>?_) (fun _=>?_) <;> conv=>whnf)
   refine ⟨av_int ?_, rfl⟩
   rw [respE, if_neg h0, if_neg]
   intro h
   have:=h k (by omega)
   omega
  ·rw [indE, if_neg hb]
   repeat' first | (refine at_ ?_; conv=>whnf) | (refine cmpI (fun _=>?_) (fun _=>?_) <;> conv=>whnf)
   refine ⟨k + 1, sI, ⟨by omega, fun j hj=>?_⟩, by dsimp only; omega⟩
   by_cases e : j = k
   ·subst e; omega
   ·exact ha j (by omega)
 ·exact ⟨av_int (by rw [respE, if_neg h0, if_pos (show inR l n from fun j hj=>ha j (by omega))]), rfl⟩
def valE (m v : Int) : Int:=if v < -1 ∨ m ≤ v then 5 else 0
theorem valueF (p : Pro) (v : Int) : PSpec Tryz.prog 228 [.agg (encP p), .int .i64 v] (fun u=>u = .int .i64 (valE p.values.length v)):=by
 refine PSpec.intro tt_ok mx_ok Tryz.func228 rfl (by decide) ?_; (conv=>whnf)
 refine boxP rfl ?_
 conv=>whnf
 by_cases h : v < -1 ∨ (p.values.length : Int) ≤ v
 ·rw [valE, if_pos h]
  repeat' first | (refine at_ ?_; conv=>whnf) | (refine cmpI (fun _=>?_) (fun _=>?_) <;> conv=>whnf)
  all_goals
   (refine oP (whenT 5) ?_; conv=>whnf)
   exact ⟨rfl, rfl⟩
 ·rw [valE, if_neg h]
  repeat' first | (refine at_ ?_; conv=>whnf) | (refine cmpI (fun _=>?_) (fun _=>?_) <;> conv=>whnf)
  (refine oP (whenF 5) ?_; conv=>whnf)
  exact ⟨rfl, rfl⟩
def thrN (g : Thr) : List Int:=[g.message, g.coef, g.bound.c, g.bound.n, g.bound.t, g.bound.f]
theorem thrN_inj {a b : Thr} : thrN a = thrN b ↔ a = b:=by
 constructor
 ·intro h
  obtain ⟨m, c, ⟨x, y, z, w⟩⟩:=a
  obtain ⟨m', c', ⟨x', y', z', w'⟩⟩:=b
  simp only [thrN, List.cons.injEq, and_true] at h
  obtain ⟨rfl, rfl, rfl, rfl, rfl, rfl⟩:=h
  rfl
 ·rintro rfl; rfl
theorem mem_getD {α : Type} {l : List α} {k : Nat} (d : α) (h : k < l.length) : l.getD k d ∈ l:=by
 rw [gD, gL h]
 exact List.getElem_mem _
theorem take_succ_getD {α : Type} {l : List α} {k : Nat} (d : α) (h : k < l.length) : l.take (k + 1) = l.take k ++ [l.getD k d]:=by
 rw [List.take_succ_eq_append_getElem h, gD, gL h]
 rfl
theorem thrIndexF (l : List Thr) (g : Thr) (hl : l.length ≤ 4503599627370496) : PSpec Tryz.prog 206 [.sl thr0 encThr l, .agg (encThr g)] (fun u=>∃ n : Int, u = .int .i64 n ∧ (0 ≤ n ↔ g ∈ l)):=by
 refine PSpec.intro tt_ok mx_ok Tryz.func206 rfl (by decide) ?_; (conv=>whnf)
 refine boxP rfl ?_
 conv=>whnf
 refine WPc.loopF tt_ok mx_ok (fun k : Nat=>k ≤ l.length ∧ g ∉ l.take k) (fun k=>[(8, .int .i64 (k : Int))]) (fun _=>[]) (fun k=>l.length - k) 0 ⟨by omega, by simp⟩ ?_; conv=>whnf
 refine ⟨sI, ?_⟩
 rintro k ⟨hk, ha⟩
 conv=>whnf
 repeat' first | (refine at_ ?_; conv=>whnf) | (refine cmpI (fun _=>?_) (fun _=>?_) <;> conv=>whnf)
 ·rename_i h1 h2
  rw [tN] at h2
  have h2 : g = l.getD k thr0:=thrN_inj.1 h2
  refine ⟨⟨k, rfl, fun _=>?_, fun _=>by omega⟩, rfl⟩
  rw [h2]; exact mem_getD _ (by omega)
 ·rename_i h1 h2
  rw [tN] at h2
  refine ⟨k + 1, sI, ⟨by omega, ?_⟩, by dsimp only; omega⟩
  rw [take_succ_getD thr0 (by omega), List.mem_append, List.mem_singleton, not_or]
  exact ⟨ha, fun e=>h2 (thrN_inj.2 e)⟩
 ·obtain rfl : k = l.length:=by omega
  rw [List.take_length] at ha
  exact ⟨⟨-1, rfl, fun h=>by omega, fun h=>absurd h ha⟩, rfl⟩
theorem thrContainsF (l : List Thr) (g : Thr) (hl : l.length ≤ 4503599627370496) : PSpec Tryz.prog 204 [.sl thr0 encThr l, .agg (encThr g)] (fun u=>u = .bool (decide (g ∈ l))):=by
 refine PSpec.intro tt_ok mx_ok Tryz.func204 rfl (by decide) ?_; (conv=>whnf)
 refine boxP rfl ?_
 conv=>whnf
 refine Spec.of_pure (n:=5) (thrIndexF l g hl) rfl ?_
 rintro _ ⟨n, rfl, hn⟩
 conv=>whnf
 refine cmpI (fun h=>?_) (fun h=>?_) <;> conv=>whnf
 ·exact ⟨dec_t (hn.1 h), rfl⟩
 ·exact ⟨dec_f (fun hh=>h (hn.2 hh)), rfl⟩
def addT (acc : List Thr) (g : Thr) : List Thr:=if g ∈ acc then acc else acc ++ [g]
def thrL (rs : List Rul) : List Thr:=(rs.flatMap (·.guards)).foldl addT []
def rowT (l : List Thr) : Blk:=.row 132 thr0 encThr l
theorem foldl_addT_len (gs : List Thr) : ∀ acc, (gs.foldl addT acc).length ≤ acc.length + gs.length:=by
 induction gs with
 | nil=>intro acc; simp
 | cons g gs ih =>
  intro acc
  have:=ih (addT acc g)
  have h2 : (addT acc g).length ≤ acc.length + 1:=by unfold addT; split <;> simp
  simp only [List.foldl_cons, List.length_cons]
  omega
theorem flat_len {rs : List Rul} (h : ∀ r ∈ rs, r.guards.length ≤ 1000) : (rs.flatMap (·.guards)).length ≤ 1000 * rs.length:=by
 induction rs with
 | nil=>simp
 | cons r rs ih =>
  have h1:=h r List.mem_cons_self
  have h2:=ih fun x hx=>h x (List.mem_cons_of_mem _ hx)
  simp only [List.flatMap_cons, List.length_append, List.length_cons]
  omega
def gsP (p : Pro) : Prop:=p.rules.length ≤ 1000 ∧ ∀ j, j < p.rules.length → (p.rules.getD j rul0).guards.length ≤ 1000
theorem guards_len {p : Pro} (h : gsP p) : ∀ r ∈ p.rules, r.guards.length ≤ 1000:=by
 intro r hr
 obtain ⟨j, hj, rfl⟩:=List.getElem_of_mem hr
 have:=h.2 j hj
 rwa [gD, gL hj] at this
def outT (rs : List Rul) (i : Nat) (r : Rul) (j : Nat) : List Thr:=(((rs.take i).flatMap (·.guards)) ++ r.guards.take j).foldl addT []
theorem outT_zero (rs : List Rul) (i : Nat) (r : Rul) : outT rs i r 0 = thrL (rs.take i):=by simp [outT, thrL]
theorem outT_succ (rs : List Rul) (i : Nat) (r : Rul) {j : Nat} (h : j < r.guards.length) : outT rs i r (j + 1) = addT (outT rs i r j) (r.guards.getD j thr0):=by
 rw [outT, take_succ_getD thr0 h, ← List.append_assoc, List.foldl_append]; rfl
theorem outT_all (rs : List Rul) {i : Nat} (h : i < rs.length) : outT rs i (rs.getD i rul0) (rs.getD i rul0).guards.length = thrL (rs.take (i + 1)):=by
 rw [thrL, take_succ_getD rul0 h, List.flatMap_append, outT, List.take_length]; simp
theorem outT_len {p : Pro} (h : gsP p) (i j : Nat) : (outT p.rules i (p.rules.getD i rul0) j).length ≤ 1001000:=by
 have h1:=flat_len (rs:=p.rules.take i) fun r hr=>guards_len h r (List.mem_of_mem_take hr)
 have h2:=foldl_addT_len ((((p.rules.take i).flatMap (·.guards)) ++ (p.rules.getD i rul0).guards.take j)) []
 have h3:=h.1
 have h4 : (p.rules.getD i rul0).guards.length ≤ 1000:=by
  by_cases hi : i < p.rules.length
  ·exact h.2 i hi
  ·rw [gD, List.getElem?_eq_none (by omega)]; simp [rul0]
 unfold outT
 simp only [List.length_append, List.length_take, List.length_nil] at h1 h2
 omega
theorem thresholdsF (p : Pro) (hp : gsP p) : PSpec Tryz.prog 139 [.agg (encP p)] (fun u=>u = .sl thr0 encThr (thrL p.rules)):=by
 have hle:=hp.1
 refine PSpec.intro tt_ok mx_ok Tryz.func139 rfl (by decide) ?_; (conv=>whnf)
 refine boxP rfl ?_
 conv=>whnf
 refine WPc.loopF tt_ok mx_ok (fun i : Nat=>i ≤ p.rules.length) (fun i=>[(11, .int .i64 (i : Int)), (3, .row 1000 (thrL (p.rules.take i)).length 6)]) (fun i=>[(1000, rowT (thrL (p.rules.take i)))]) (fun i=>p.rules.length - i) 0 (by omega) ?_; conv=>whnf
 refine ⟨Sub.by_ [(1000, .nil 6)] _ 400 rfl (auto_) (auto_), ?_⟩
 intro i hi
 conv=>whnf
 refine cmpI (fun h1=>?_) (fun h1=>?_) <;> conv=>whnf
 ·refine nI ?_
  rw [tN]
  have hil : i < p.rules.length:=by omega
  have hgl:=hp.2 i hil
  have hpl:=outT_len hp i
  have hall:=outT_all p.rules hil
  have hzero:=outT_zero p.rules i (p.rules.getD i rul0)
  have hsucc:=fun j=>outT_succ p.rules i (p.rules.getD i rul0) (j:=j)
  generalize p.rules.getD i rul0 = r at hgl hpl hall hzero hsucc
  rw [← hzero]
  generalize outT p.rules i r = out at hpl hall hsucc
  conv=>whnf
  refine WPc.loopF tt_ok mx_ok (fun j : Nat=>j ≤ r.guards.length) (fun j=>[(18, .int .i64 (j : Int)), (3, .row 1000 (out j).length 6), (5, .top), (15, .top)]) (fun j=>[(1000, rowT (out j))]) (fun j=>r.guards.length - j) 0 (by omega) ?_; conv=>whnf
  refine ⟨sI, ?_⟩
  intro j hj
  conv=>whnf
  refine cmpI (fun h2=>?_) (fun h2=>?_) <;> conv=>whnf
  ·refine nI ?_
   rw [tN]
   have hs:=hsucc j (by omega)
   have hlj:=hpl j
   generalize r.guards.getD j thr0 = g at hs
   conv=>whnf
   refine Spec.borrow (n:=5) (thrContainsF (out j) g (by omega)) rfl (by rintro _ rfl; rfl) ?_
   rintro _ rfl
   by_cases hm : g ∈ out j
   ·rw [decide_eq_true hm]
    conv=>whnf
    repeat' first | (refine at_ ?_; conv=>whnf) | (refine cmpI (fun _=>?_) (fun _=>?_) <;> conv=>whnf)
    have e : out (j + 1) = out j:=by rw [hs, addT, if_pos hm]
    refine ⟨j + 1, ?_, by omega, by dsimp only; omega⟩
    dsimp only
    rw [e]
    exact sI
   ·rw [decide_eq_false hm]
    conv=>whnf
    refine bldI thr0 encThr [g] rfl ?_
    conv=>whnf
    repeat' first | (refine at_ ?_; conv=>whnf) | (refine cmpI (fun _=>?_) (fun _=>?_) <;> conv=>whnf)
    have e : out (j + 1) = out j ++ [g]:=by rw [hs, addT, if_neg hm]
    refine ⟨j + 1, ?_, by omega, by dsimp only; omega⟩
    dsimp only
    rw [e]
    exact Sub.by_ [(1000, .old 29)] _ 400 rfl (auto_) (auto_)
  ·obtain rfl : j = r.guards.length:=by omega
   repeat' first | (refine at_ ?_; conv=>whnf) | (refine cmpI (fun _=>?_) (fun _=>?_) <;> conv=>whnf)
   refine ⟨i + 1, ?_, by omega, by dsimp only; omega⟩
   dsimp only
   rw [← hall]
   exact sI
 ·obtain rfl : i = p.rules.length:=by omega
  rw [List.take_length]
  exact ⟨rfl, rfl⟩
set_option maxRecDepth 100000
set_option maxHeartbeats 4000000
theorem sameThrR (a b : Thr) : PSpec Tryz.prog 234 [.agg (encThr a), .agg (encThr b)] (fun u=>u = .bool (decide (a = b))):=by
 refine PSpec.intro tt_ok mx_ok Tryz.func234 rfl (by decide) ?_; (conv=>whnf)
 refine boxP rfl ?_
 conv=>whnf
 refine boxP rfl ?_
 conv=>whnf
 refine cmpI (fun h1=>?_) (fun h1=>?_) <;> conv=>whnf
 ·refine cmpI (fun h2=>?_) (fun h2=>?_) <;> conv=>whnf
  ·refine cmpI (fun h3=>?_) (fun h3=>?_) <;> conv=>whnf
   ·refine ⟨dec_t (thrN_inj.1 ?_), rfl⟩
    simp only [List.cons.injEq, and_true] at h3
    simp only [thrN, h1, h2, h3]
   ·exact ⟨dec_f (fun h=>h3 (by rw [h])), rfl⟩
  ·exact ⟨dec_f (fun h=>h2 (by rw [h])), rfl⟩
 ·exact ⟨dec_f (fun h=>h1 (by rw [h])), rfl⟩
theorem thrIdxR (l : List Thr) (g : Thr) (hl : l.length ≤ 4503599627370496) : PSpec Tryz.prog 211 [.sl thr0 encThr l, .agg (encThr g)] (fun u=>∃ n : Int, u = .int .i64 n ∧ (n < 0 ↔ g ∉ l)):=by
 refine PSpec.intro tt_ok mx_ok Tryz.func211 rfl (by decide) ?_; (conv=>whnf)
 refine boxP rfl ?_
 conv=>whnf
 refine WPc.loopF tt_ok mx_ok (fun k : Nat=>k ≤ l.length ∧ g ∉ l.take k) (fun k=>[(5, .int .i64 (k : Int))]) (fun _=>[]) (fun k=>l.length - k) 0 ⟨by omega, by simp⟩ ?_; conv=>whnf
 refine ⟨sI, ?_⟩
 rintro k ⟨hk, ha⟩
 conv=>whnf
 refine cmpI (fun h1=>?_) (fun h1=>?_) <;> conv=>whnf
 ·refine dI ?_
  conv=>whnf
  refine nI ?_
  rw [tN]
  conv=>whnf
  refine dD (sameThrR (l.getD k thr0) g) (fun _=>?_) (fun _=>?_) <;> (conv=>whnf)
  ·rename_i h2
   refine ⟨⟨k, rfl, fun h=>by omega, fun h=>absurd ?_ h⟩, rfl⟩
   rw [← h2]; exact mem_getD _ (by omega)
  ·rename_i h2
   repeat' first | (refine at_ ?_; conv=>whnf) | (refine cmpI (fun _=>?_) (fun _=>?_) <;> conv=>whnf)
   refine ⟨k + 1, sI, ⟨by omega, ?_⟩, by dsimp only; omega⟩
   rw [take_succ_getD thr0 (by omega), List.mem_append, List.mem_singleton, not_or]
   exact ⟨ha, fun e=>h2 e.symm⟩
 ·obtain rfl : k = l.length:=by omega
  rw [List.take_length] at ha
  exact ⟨⟨-1, rfl, fun _=>ha, fun _=>by omega⟩, rfl⟩
theorem distinctR (p : Pro) (hp : gsP p) : PSpec Tryz.prog 157 [.agg (encP p)] (fun u=>u = .sl thr0 encThr (thrL p.rules)):=by
 have hle:=hp.1
 refine PSpec.intro tt_ok mx_ok Tryz.func157 rfl (by decide) ?_; (conv=>whnf)
 refine boxP rfl ?_
 conv=>whnf
 refine WPc.loopF tt_ok mx_ok (fun i : Nat=>i ≤ p.rules.length) (fun i=>[(4, .int .i64 (i : Int)), (3, .row 1000 (thrL (p.rules.take i)).length 6)]) (fun i=>[(1000, rowT (thrL (p.rules.take i)))]) (fun i=>p.rules.length - i) 0 (by omega) ?_; conv=>whnf
 refine ⟨Sub.by_ [(1000, .nil 6)] _ 400 rfl (auto_) (auto_), ?_⟩
 intro i hi
 conv=>whnf
 refine cmpI (fun h1=>?_) (fun h1=>?_) <;> conv=>whnf
 ·have hil : i < p.rules.length:=by omega
  have hgl:=hp.2 i hil
  have hpl:=outT_len hp i
  have hall:=outT_all p.rules hil
  have hzero:=outT_zero p.rules i (p.rules.getD i rul0)
  have hsucc:=fun j=>outT_succ p.rules i (p.rules.getD i rul0) (j:=j)
  rw [← hzero]
  generalize ho : outT p.rules i (p.rules.getD i rul0) = out at hpl hall hsucc
  refine WPc.loopF tt_ok mx_ok (fun j : Nat=>j ≤ (p.rules.getD i rul0).guards.length) (fun j=>[(5, .int .i64 (j : Int)), (3, .row 1000 (out j).length 6)]) (fun j=>[(1000, rowT (out j))]) (fun j=>(p.rules.getD i rul0).guards.length - j) 0 (by omega) ?_; conv=>whnf
  refine ⟨sI, ?_⟩
  intro j hj
  conv=>whnf
  refine nI ?_
  rw [tN]
  conv=>whnf
  refine cmpI (fun h2=>?_) (fun h2=>?_) <;> conv=>whnf
  ·refine nI ?_
   rw [tN]
   conv=>whnf
   refine nI ?_
   rw [tN]
   have hs:=hsucc j (by omega)
   have hlj:=hpl j
   generalize (p.rules.getD i rul0).guards.getD j thr0 = g at hs
   conv=>whnf
   refine Spec.borrow (n:=5) (thrIdxR (out j) g (by omega)) rfl (by rintro _ ⟨n, rfl, _⟩; rfl) ?_
   rintro _ ⟨n, rfl, hn⟩
   conv=>whnf
   refine cmpI (fun h3=>?_) (fun h3=>?_) <;> conv=>whnf
   ·have hm:=hn.1 h3
    refine bldI thr0 encThr [g] rfl ?_
    conv=>whnf
    repeat' first | (refine at_ ?_; conv=>whnf) | (refine cmpI (fun _=>?_) (fun _=>?_) <;> conv=>whnf)
    have e : out (j + 1) = out j ++ [g]:=by rw [hs, addT, if_neg hm]
    refine ⟨j + 1, ?_, by omega, by dsimp only; omega⟩
    dsimp only
    rw [e]
    exact Sub.by_ [(1000, .old 41)] _ 400 rfl (auto_) (auto_)
   ·have hm : g ∈ out j:=Classical.byContradiction fun h=>h3 (hn.2 h)
    repeat' first | (refine at_ ?_; conv=>whnf) | (refine cmpI (fun _=>?_) (fun _=>?_) <;> conv=>whnf)
    have e : out (j + 1) = out j:=by rw [hs, addT, if_pos hm]
    refine ⟨j + 1, ?_, by omega, by dsimp only; omega⟩
    dsimp only
    rw [e]
    exact sI
  ·obtain rfl : j = (p.rules.getD i rul0).guards.length:=by omega
   repeat' first | (refine at_ ?_; conv=>whnf) | (refine cmpI (fun _=>?_) (fun _=>?_) <;> conv=>whnf)
   refine ⟨i + 1, ?_, by omega, by dsimp only; omega⟩
   dsimp only
   rw [← hall]
   exact sI
 ·obtain rfl : i = p.rules.length:=by omega
  rw [List.take_length]
  exact ⟨rfl, rfl⟩
theorem ruleClosF (x r : Rul) : PSpec Tryz.prog 224 [.agg (encR x), .pd (encR r)] (fun u=>u = .bool (decide (x.name = r.name))):=by
 refine PSpec.intro tt_ok mx_ok Tryz.func224 rfl (by decide) ?_; (conv=>whnf)
 refine boxP rfl ?_
 conv=>whnf
 refine cmpI (fun h=>?_) (fun h=>?_) <;> conv=>whnf
 ·exact ⟨dec_t h, rfl⟩
 ·exact ⟨dec_f h, rfl⟩
def takenB (rs : List Rul) (i : Nat) (r : Rul) : Prop:=∃ j, j < (rs.take i).length ∧ ((rs.take i).getD j rul0).name = r.name
instance (rs : List Rul) (i : Nat) (r : Rul) : Decidable (takenB rs i r):=inferInstanceAs (Decidable (∃ j, j < (rs.take i).length ∧ _))
theorem ruleIdxF (l : List Rul) (r : Rul) (hl : l.length ≤ 4503599627370496) : PSpec Tryz.prog 212 [.sl rul0 encR l, .fn 224 [.pd (encR r)]] (fun u=>∃ n : Int, u = .int .i64 n ∧ (0 ≤ n ↔ ∃ j, j < l.length ∧ (l.getD j rul0).name = r.name)):=by
 refine PSpec.intro tt_ok mx_ok Tryz.func212 rfl (by decide) ?_; (conv=>whnf)
 refine WPc.loopF tt_ok mx_ok (fun k : Nat=>k ≤ l.length ∧ ∀ j, j < k → (l.getD j rul0).name ≠ r.name) (fun k=>[(8, .int .i64 (k : Int))]) (fun _=>[]) (fun k=>l.length - k) 0 ⟨by omega, fun j hj=>by omega⟩ ?_; conv=>whnf
 refine ⟨sI, ?_⟩
 rintro k ⟨hk, ha⟩
 conv=>whnf
 refine cmpI (fun h1=>?_) (fun h1=>?_) <;> conv=>whnf
 ·refine nI ?_
  rw [tN]
  conv=>whnf
  refine dC (ruleClosF (l.getD k rul0) r) (fun _=>?_) (fun _=>?_) <;> (conv=>whnf)
  ·rename_i h2
   exact ⟨⟨k, rfl, fun _=>⟨k, by omega, h2⟩, fun _=>by omega⟩, rfl⟩
  ·rename_i h2
   repeat' first | (refine at_ ?_; conv=>whnf) | (refine cmpI (fun _=>?_) (fun _=>?_) <;> conv=>whnf)
   refine ⟨k + 1, sI, ⟨by omega, fun j hj=>?_⟩, by dsimp only; omega⟩
   by_cases e : j = k
   ·subst e; exact h2
   ·exact ha j (by omega)
 ·exact ⟨⟨-1, rfl, fun h=>by omega, fun ⟨j, h1, h2⟩=>absurd h2 (ha j (by omega))⟩, rfl⟩
theorem ruleHasF (rs : List Rul) (i : Nat) (r : Rul) (hl : rs.length ≤ 4503599627370496) : PSpec Tryz.prog 162 [.sl rul0 encR (rs.take i), .fn 224 [.pd (encR r)]] (fun u=>u = .bool (decide (takenB rs i r))):=by
 refine PSpec.intro tt_ok mx_ok Tryz.func162 rfl (by decide) ?_; (conv=>whnf)
 refine Spec.of_pure (n:=5) (ruleIdxF (rs.take i) r (by simp; omega)) rfl ?_
 rintro _ ⟨n, rfl, hn⟩
 conv=>whnf
 refine cmpI (fun h=>?_) (fun h=>?_) <;> conv=>whnf
 ·exact ⟨dec_t (hn.1 h), rfl⟩
 ·exact ⟨dec_f (fun hh=>h (hn.2 hh)), rfl⟩
def atE (a t : Int) : Int:=if a < 0 ∨ 2 < a ∨ (a ≠ 0 ∧ t = 3) then 1 else 0
def dirE (d t : Int) : Int:=if (t = 4 ∧ (d < 3 ∨ 4 < d)) ∨ (t ≠ 4 ∧ (d < 1 ∨ 2 < d)) then 1 else 0
def kindE (p : Pro) (r : Rul) : Int :=
 if r.kind = 1 then orL [guardsE p.messages.length r.guards, setE r.some_ p.states.length, setE r.forall_ p.states.length, valE p.values.length r.read, valE p.values.length r.write, setE r.send p.messages.length]
 else if r.kind = 2 then orL [indE r.pfrom p.states.length, indE r.pto p.states.length, valE p.values.length r.read, valE p.values.length r.write]
 else if r.kind = 3 then orL [respE r.response p.states.length, valE p.values.length r.read, valE p.values.length r.write]
 else if r.kind = 4 then orL [setE r.left p.states.length, setE r.right p.states.length, setE r.parent p.states.length, atE r.at_ p.topology]
 else orL [indE r.pfrom p.states.length, indE r.pto p.states.length, dirE r.direction p.topology]
def ruleE (p : Pro) (i : Nat) (r : Rul) : Int :=
 if ¬ validN r.name ∨ takenB p.rules i r then 2 else if ¬ fitB r.kind p.topology ∨ surB r p.topology then 6
 else orL [indE r.src p.states.length, indE r.dst p.states.length, kindE p r]
theorem orL_two (a b c : Int) : orL [a, b, c] = if orL [a, b] ≠ 0 then orL [a, b] else c:=by
 simp only [orL]
 by_cases h1 : a = 0 <;> by_cases h2 : b = 0 <;> by_cases h3 : c = 0 <;> simp [h1, h2, h3]
theorem ruleErrorF (p : Pro) (i : Nat) (hp : okP p) (hi : i < p.rules.length) : PSpec Tryz.prog 193 [.agg (encP p), .int .i64 (i : Int)] (fun u=>u = .int .i64 (ruleE p i (p.rules.getD i rul0))):=by
 have hle:=okP_le hp
 have hbr:=okP_rule hp hi
 refine PSpec.intro tt_ok mx_ok Tryz.func193 rfl (by decide) ?_; (conv=>whnf)
 refine boxP rfl ?_
 conv=>whnf
 refine nI ?_
 rw [tN]
 generalize p.rules.getD i rul0 = r at hbr
 have hrl:=okR_le hbr
 conv=>whnf
 refine nI ?_
 rw [tN]
 conv=>whnf
 refine Spec.borrow (n:=5) (ruleHasF p.rules i r (by omega)) rfl (by rintro _ rfl; rfl) ?_
 rintro _ rfl
 by_cases hv : validN r.name
 ·by_cases ht : takenB p.rules i r
  ·rw [decide_eq_true ht]
   conv=>whnf
   refine dC (validNameP r.name (by omega)) (fun _=>?_) (fun _=>?_) <;> (conv=>whnf)
   ·exact ⟨av_int (by rw [ruleE, if_pos (.inr ht)]), rfl⟩
   ·exact ⟨av_int (by rw [ruleE, if_pos (.inr ht)]), rfl⟩
  ·rw [decide_eq_false ht]
   have e1 : ∀ x, (if ¬ validN r.name ∨ takenB p.rules i r then (2 : Int) else x) = x:=fun x=>if_neg (by rintro (h | h); exact h hv; exact ht h)
   conv=>whnf
   refine dC (validNameP r.name (by omega)) (fun _=>?_) (fun _=>?_) <;> (conv=>whnf)
   ·by_cases hf : fitB r.kind p.topology
    ·refine dC (fitsF r.kind p.topology) (fun _=>?_) (fun _=>?_) <;> (conv=>whnf)
     ·refine dC (surplusF r p.topology hbr hf) (fun _=>?_) (fun _=>?_) <;> (conv=>whnf)
      ·rename_i hs
       exact ⟨av_int (by rw [ruleE, e1, if_pos (.inr hs)]), rfl⟩
      ·rename_i hs
       have e2 : ruleE p i r = orL [indE r.src p.states.length, indE r.dst p.states.length, kindE p r]:=by rw [ruleE, e1, if_neg (by rintro (h | h); exact h hf; exact hs h)]
       rw [orL_two] at e2
       refine dI ?_
       conv=>whnf
       (refine oC (indexF _ _) ?_; conv=>whnf)
       (refine oC (indexF _ _) ?_; conv=>whnf)
       refine leakY ?_
       conv=>whnf
       (refine oC (firstF _ (by simp)) ?_; conv=>whnf)
       refine cmpI (fun h3=>?_) (fun h3=>?_) <;> conv=>whnf
       ·rw [if_pos h3] at e2
        exact ⟨av_int e2.symm, rfl⟩
       ·rw [if_neg h3] at e2
        have ff:=hf
        unfold fitB at ff
        by_cases k1 : r.kind = 1
        ·refine cmpT k1 ?_
         conv=>whnf
         refine dI ?_
         conv=>whnf
         (refine oC (guardsF p r.guards (by omega)) ?_; conv=>whnf)
         (refine oC (setP r.some_ _ (by omega)) ?_; conv=>whnf)
         (refine oC (setP r.forall_ _ (by omega)) ?_; conv=>whnf)
         (refine oC (valueF p r.read) ?_; conv=>whnf)
         (refine oC (valueF p r.write) ?_; conv=>whnf)
         (refine oC (setP r.send _ (by omega)) ?_; conv=>whnf)
         refine leakY ?_
         conv=>whnf
         (refine oC (firstF _ (by simp)) ?_; conv=>whnf)
         exact ⟨av_int (by rw [e2, kindE, if_pos k1]), rfl⟩
        refine cmpF k1 ?_
        conv=>whnf
        by_cases k2 : r.kind = 2
        ·refine cmpT k2 ?_
         conv=>whnf
         refine dI ?_
         conv=>whnf
         (refine oC (indexF _ _) ?_; conv=>whnf)
         (refine oC (indexF _ _) ?_; conv=>whnf)
         (refine oC (valueF p r.read) ?_; conv=>whnf)
         (refine oC (valueF p r.write) ?_; conv=>whnf)
         refine leakY ?_
         conv=>whnf
         (refine oC (firstF _ (by simp)) ?_; conv=>whnf)
         exact ⟨av_int (by rw [e2, kindE, if_neg k1, if_pos k2]), rfl⟩
        refine cmpF k2 ?_
        conv=>whnf
        by_cases k3 : r.kind = 3
        ·refine cmpT k3 ?_
         conv=>whnf
         refine dI ?_
         conv=>whnf
         (refine oC (responsesF r.response _ (by omega)) ?_; conv=>whnf)
         (refine oC (valueF p r.read) ?_; conv=>whnf)
         (refine oC (valueF p r.write) ?_; conv=>whnf)
         refine leakY ?_
         conv=>whnf
         (refine oC (firstF _ (by simp)) ?_; conv=>whnf)
         exact ⟨av_int (by rw [e2, kindE, if_neg k1, if_neg k2, if_pos k3]), rfl⟩
        refine cmpF k3 ?_
        conv=>whnf
        by_cases k4 : r.kind = 4
        ·refine cmpT k4 ?_
         conv=>whnf
         by_cases hm : r.at_ < 0 ∨ 2 < r.at_ ∨ (r.at_ ≠ 0 ∧ p.topology = 3)
         ·have ea : (1 : Int) = atE r.at_ p.topology:=by rw [atE, if_pos hm]
          repeat' (first | (refine tI ?_; conv=>whnf) | (refine fI ?_; conv=>whnf) | (refine cmpI (fun _=>?_) (fun _=>?_) <;> conv=>whnf))
          all_goals
           refine dI ?_
           conv=>whnf
           (refine oC (setP r.left _ (by omega)) ?_; conv=>whnf)
           (refine oC (setP r.right _ (by omega)) ?_; conv=>whnf)
           (refine oC (setP r.parent _ (by omega)) ?_; conv=>whnf)
           (refine oC (whenT 1) ?_; conv=>whnf)
           refine leakY ?_
           conv=>whnf
           (refine oC (firstF _ (by simp)) ?_; conv=>whnf)
           exact ⟨av_int (by rw [e2, kindE, if_neg k1, if_neg k2, if_neg k3, if_pos k4, ← ea]), rfl⟩
         ·have ea : (0 : Int) = atE r.at_ p.topology:=by rw [atE, if_neg hm]
          repeat' (first | (refine tI ?_; conv=>whnf) | (refine fI ?_; conv=>whnf) | (refine cmpI (fun _=>?_) (fun _=>?_) <;> conv=>whnf))
          all_goals
           refine dI ?_
           conv=>whnf
           (refine oC (setP r.left _ (by omega)) ?_; conv=>whnf)
           (refine oC (setP r.right _ (by omega)) ?_; conv=>whnf)
           (refine oC (setP r.parent _ (by omega)) ?_; conv=>whnf)
           (refine oC (whenF 1) ?_; conv=>whnf)
           refine leakY ?_
           conv=>whnf
           (refine oC (firstF _ (by simp)) ?_; conv=>whnf)
           exact ⟨av_int (by rw [e2, kindE, if_neg k1, if_neg k2, if_neg k3, if_pos k4, ← ea]), rfl⟩
        refine cmpF k4 ?_
        conv=>whnf
        by_cases hd : (p.topology = 4 ∧ (r.direction < 3 ∨ 4 < r.direction)) ∨ (p.topology ≠ 4 ∧ (r.direction < 1 ∨ 2 < r.direction))
        ·have ea : (1 : Int) = dirE r.direction p.topology:=by rw [dirE, if_pos hd]
         refine cmpI (fun h4=>?_) (fun h4=>?_) <;> conv=>whnf
         all_goals
          refine dI ?_
          conv=>whnf
          (refine oC (indexF _ _) ?_; conv=>whnf)
          (refine oC (indexF _ _) ?_; conv=>whnf)
          repeat' (first | (refine tI ?_; conv=>whnf) | (refine fI ?_; conv=>whnf) | (refine cmpI (fun _=>?_) (fun _=>?_) <;> conv=>whnf))
          all_goals
           (refine oC (whenT 1) ?_; conv=>whnf)
           refine leakY ?_
           conv=>whnf
           (refine oC (firstF _ (by simp)) ?_; conv=>whnf)
           exact ⟨av_int (by rw [e2, kindE, if_neg k1, if_neg k2, if_neg k3, if_neg k4, ← ea]), rfl⟩
        ·have ea : (0 : Int) = dirE r.direction p.topology:=by rw [dirE, if_neg hd]
         refine cmpI (fun h4=>?_) (fun h4=>?_) <;> conv=>whnf
         all_goals
          refine dI ?_
          conv=>whnf
          (refine oC (indexF _ _) ?_; conv=>whnf)
          (refine oC (indexF _ _) ?_; conv=>whnf)
          repeat' (first | (refine tI ?_; conv=>whnf) | (refine fI ?_; conv=>whnf) | (refine cmpI (fun _=>?_) (fun _=>?_) <;> conv=>whnf))
          all_goals
           (refine oC (whenF 1) ?_; conv=>whnf)
           refine leakY ?_
           conv=>whnf
           (refine oC (firstF _ (by simp)) ?_; conv=>whnf)
           exact ⟨av_int (by rw [e2, kindE, if_neg k1, if_neg k2, if_neg k3, if_neg k4, ← ea]), rfl⟩
     ·rename_i h; exact absurd hf h
    ·refine dC (fitsF r.kind p.topology) (fun _=>?_) (fun _=>?_) <;> (conv=>whnf)
     ·rename_i h; exact absurd h hf
     ·exact ⟨av_int (by rw [ruleE, e1, if_pos (.inl hf)]), rfl⟩
   ·rename_i h; exact absurd hv h
 ·by_cases ht : takenB p.rules i r
  ·rw [decide_eq_true ht]
   conv=>whnf
   refine dC (validNameP r.name (by omega)) (fun _=>?_) (fun _=>?_) <;> (conv=>whnf)
   ·exact ⟨av_int (by rw [ruleE, if_pos (.inl hv)]), rfl⟩
   ·exact ⟨av_int (by rw [ruleE, if_pos (.inl hv)]), rfl⟩
  ·rw [decide_eq_false ht]
   conv=>whnf
   refine dC (validNameP r.name (by omega)) (fun _=>?_) (fun _=>?_) <;> (conv=>whnf)
   ·rename_i h; exact absurd h hv
   ·exact ⟨av_int (by rw [ruleE, if_pos (.inl hv)]), rfl⟩
end Go.Proofs.YtnjggjhkfncnlaaGreatDoor
