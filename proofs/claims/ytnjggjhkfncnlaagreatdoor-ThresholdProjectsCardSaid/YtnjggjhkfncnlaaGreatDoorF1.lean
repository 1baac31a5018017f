import Derived.Test.YtnjggjhkfncnlaaGreatDoorTab
set_option linter.unusedVariables false
set_option linter.unusedSimpArgs false
namespace Go.Proofs.YtnjggjhkfncnlaaGreatDoor
def T (n : Nat) : List AV:=List.replicate n .top
def encL (l : List Int) : List AV:=[.sl 0 encI l]
def cmpL : List Int → List Int → Int
 | [], []=>0
 | [], _ :: _=>-1
 | _ :: _, []=>1
 | x :: xs, y :: ys=>if x < y then -1 else if y < x then 1 else cmpL xs ys
def cmpZ (x y : Int) : Int:=if x < y then -1 else if y < x then 1 else 0
theorem av_int {a b : Int} (h : a = b) : AV.int .i64 a = .int .i64 b:=by rw [h]
set_option maxRecDepth 10000
theorem cmpIsNaN (x : Int) : PSpec Tryz.prog 175 [.int .i64 x] (fun u=>u = .bool false):=by
 refine PSpec.intro tt_ok mx_ok Tryz.func175 rfl (by decide) ?_; (conv=>whnf)
 repeat' first | (refine at_ ?_; conv=>whnf) | (refine cmpI (fun _=>?_) (fun _=>?_) <;> conv=>whnf)
 exact ⟨rfl, rfl⟩
theorem cmpCompare (x y : Int) : PSpec Tryz.prog 101 [.int .i64 x, .int .i64 y] (fun u=>u = .int .i64 (cmpZ x y)):=by
 refine PSpec.intro tt_ok mx_ok Tryz.func101 rfl (by decide) ?_; (conv=>whnf)
 (refine oP (cmpIsNaN x) ?_; conv=>whnf)
 (refine oP (cmpIsNaN y) ?_; conv=>whnf)
 repeat' first | (refine at_ ?_; conv=>whnf) | (refine cmpI (fun _=>?_) (fun _=>?_) <;> conv=>whnf)
 all_goals
  refine ⟨av_int ?_, rfl⟩
  unfold cmpZ
  simp [*]
theorem sl_eq {α : Type} {d : α} {enc : α → List AV} {l l' : List α} (h : l = l') : AV.sl d enc l = AV.sl d enc l':=by rw [h]
structure Ord (α : Type) (c : α → α → Int) : Prop where
 anti : ∀ a b, c a b < 0 → c b a > 0
 anti' : ∀ a b, c a b > 0 → c b a < 0
 trans : ∀ a b d, c a b ≤ 0 → c b d ≤ 0 → c a d ≤ 0
theorem cmpL_ord : Ord (List Int) cmpL where
 anti:=by
  intro a
  induction a with
  | nil=>intro b h; cases b <;> simp_all [cmpL]
  | cons x xs ih =>
   intro b h
   cases b with
   | nil=>simp [cmpL] at h
   | cons y ys =>
    simp only [cmpL] at *
    by_cases a : x < y
    ·simp [a, show ¬ y < x from by omega]
    ·by_cases b : y < x
     ·simp [a, b] at h
     ·simp only [a, b, if_false] at *; exact ih ys h
 anti':=by
  intro a
  induction a with
  | nil=>intro b h; cases b <;> simp_all [cmpL]
  | cons x xs ih =>
   intro b h
   cases b with
   | nil=>simp [cmpL]
   | cons y ys =>
    simp only [cmpL] at *
    by_cases a : x < y
    ·simp [a] at h
    ·by_cases b : y < x
     ·simp [b]
     ·simp only [a, b, if_false] at *; exact ih ys h
 trans:=by
  intro a
  induction a with
  | nil=>intro b d _ h2; cases d <;> simp [cmpL]
  | cons x xs ih =>
   intro b d h1 h2
   cases b with
   | nil=>simp [cmpL] at h1
   | cons y ys =>
    cases d with
    | nil=>simp [cmpL] at h2
    | cons z zs =>
     simp only [cmpL] at *
     by_cases a1 : x < y
     ·by_cases b1 : y < z
      ·simp [show x < z from by omega]
      ·by_cases b2 : z < y
       ·simp [b1, b2] at h2
       ·simp [show x < z from by omega]
     ·by_cases a2 : y < x
      ·simp [a1, a2] at h1
      ·by_cases b1 : y < z
       ·simp [show x < z from by omega]
       ·by_cases b2 : z < y
        ·simp [b1, b2] at h2
        ·have e1 : ¬ x < z:=by omega
         have e2 : ¬ z < x:=by omega
         simp only [a1, a2, b1, b2, e1, e2, if_false] at *
         exact ih ys zs h1 h2
theorem cmpL_eq : ∀ {a b : List Int}, cmpL a b = 0 → a = b
 | [], [], _=>rfl
 | [], _ :: _, h=>by simp [cmpL] at h
 | _ :: _, [], h=>by simp [cmpL] at h
 | x :: xs, y :: ys, h=>by
  simp only [cmpL] at h
  by_cases a : x < y
  ·simp [a] at h
  ·by_cases b : y < x
   ·simp [a, b] at h
   ·simp only [a, b, if_false] at h
    rw [cmpL_eq h, show x = y from by omega]
set_option maxRecDepth 10000
def rowL (l : List (List Int)) : Blk:=.row 24 [] encL l
set_option maxRecDepth 10000
set_option maxRecDepth 10000
def Asc (l : List (List Int)) : Prop:=l.Pairwise fun a b=>cmpL a b < 0
set_option maxRecDepth 10000
instance (l : List (List Int)) : Decidable (Asc l):=inferInstanceAs (Decidable (List.Pairwise _ _))
set_option maxRecDepth 10000
set_option maxHeartbeats 2000000
theorem PSpec.sub {P : Program} {f : FuncId} {args : List AV} {R R' : AV → Prop} (h : PSpec P f args R) (hr : ∀ u, R u → ∃ u', R' u' ∧ avR [] 20 u u' ∧ persN 5 u' = true) : PSpec P f args R':=by
 rw [PSpec_iff] at *
 refine ⟨h.1, fun S F vs w h0 h1 h2 h3 hv=>(h.2 S F vs w h0 h1 h2 h3 hv).mono ?_⟩
 rintro e w' ⟨v, u, S', a, b, c, d, e', f', g, hw⟩
 obtain ⟨u', hu', hav, hp⟩:=hr u b
 have:=(avR_ok (S:=S') (ρ:=fun _=>none) (lm:=[]) 20).1 u u' v hav (.p g)
 exact ⟨v, u', S', a, hu', c, d, e', f', persN_ok 5 hp this, hw⟩
set_option maxRecDepth 10000
set_option maxHeartbeats 2000000
end Go.Proofs.YtnjggjhkfncnlaaGreatDoor
set_option maxRecDepth 100000
namespace Go.Proofs.YtnjggjhkfncnlaaGreatDoor
set_option maxRecDepth 100000
def shpB : Int → List Int → Bool
 | n, []=>decide (n = 0)
 | n, x :: xs=>if n = 0 then false else if x ≠ 0 ∧ x ≠ 2 then false else shpB (n + (x - 1)) xs
theorem drop_at {l : List Int} {i : Nat} (h : i < l.length) : l.drop i = l.getD i 0 :: l.drop (i + 1):=by
 rw [List.drop_eq_getElem_cons h, gD, gL h]
 rfl
theorem isShapeF (l : List Int) (hl : l.length ≤ 1000) : PSpec Tryz.prog 154 [.sl 0 encI l] (fun u=>u = .bool (shpB 1 l)):=by
 refine PSpec.intro tt_ok mx_ok Tryz.func154 rfl (by decide) ?_; (conv=>whnf)
 refine WPc.loop (fun x : Nat × Int=>x.1 ≤ l.length ∧ -1 - x.1 ≤ x.2 ∧ x.2 ≤ 1 + x.1 ∧ shpB 1 l = shpB x.2 (l.drop x.1)) (fun x=>((.sl 0 encI l) :: .top :: .top :: (.int .i64 x.2) :: (.int .i64 (x.1 : Int)) :: T 31)) (fun _=>Mem.ofL []) (fun x=>l.length - x.1) (0, 1) (by simp) (Sub.by_ [] [] 400 rfl trivial auto_) ?_
 rintro ⟨i, n⟩ ⟨hi, h1, h2, hs⟩
 dsimp only at hi h1 h2 hs
 refine codeK_ok tt_ok mx_ok _ _ _ _ ?_
 conv=>whnf
 repeat' first | (refine at_ ?_; conv=>whnf) | (refine cmpI (fun _=>?_) (fun _=>?_) <;> conv=>whnf)
 ·rename_i hlt h0
  dsimp only at hlt h0
  rw [hs, drop_at (by omega), shpB, if_pos h0]
  exact ⟨rfl, rfl⟩
 ·rename_i hlt h0 ha hb
  dsimp only at hlt h0
  rw [tN] at ha hb
  rw [hs, drop_at (by omega), shpB, if_neg h0, if_pos ⟨ha, hb⟩]
  exact ⟨rfl, rfl⟩
 ·rename_i hlt h0 ha hb
  dsimp only at hlt h0
  rw [tN] at ha hb
  have hb' : l.getD i 0 = 2:=by simpa using hb
  refine ⟨(i + 1, n + (l.getD i 0 - 1)), (Sub.by_ [] [] 400 rfl trivial auto_), ⟨by omega, by dsimp only; omega, by dsimp only; omega, ?_⟩, Nat.sub_lt_sub_left (by dsimp only; omega) (by dsimp only; omega)⟩
  dsimp only
  rw [hs, drop_at (by omega), shpB, if_neg h0, if_neg (by rw [hb']; decide)]
 ·rename_i hlt h0 ha
  dsimp only at hlt h0
  rw [tN] at ha
  have hb' : l.getD i 0 = 0:=by simpa using ha
  refine ⟨(i + 1, n + (l.getD i 0 - 1)), (Sub.by_ [] [] 400 rfl trivial auto_), ⟨by omega, by dsimp only; omega, by dsimp only; omega, ?_⟩, Nat.sub_lt_sub_left (by dsimp only; omega) (by dsimp only; omega)⟩
  dsimp only
  rw [hs, drop_at (by omega), shpB, if_neg h0, if_neg (by rw [hb']; decide)]
 ·rename_i hlt h0
  dsimp only at hlt h0
  rw [hs, List.drop_eq_nil_of_le (by omega), shpB, decide_eq_true h0]
  exact ⟨rfl, rfl⟩
 ·rename_i hlt h0
  dsimp only at hlt h0
  rw [hs, List.drop_eq_nil_of_le (by omega), shpB, decide_eq_false h0]
  exact ⟨rfl, rfl⟩
end Go.Proofs.YtnjggjhkfncnlaaGreatDoor
