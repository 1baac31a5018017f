import Derived.Test.YtnjggjhkfncnlaaGreatDoorPlR
set_option linter.unusedVariables false
set_option linter.unusedSimpArgs false
namespace Go.Proofs.YtnjggjhkfncnlaaGreatDoor
set_option maxRecDepth 100000
set_option maxHeartbeats 8000000
structure LSys where
 vars : Int
 rows : List Row
def numB (n : Int) : Prop:=-68719476736 ≤ n ∧ n ≤ 68719476736
instance (n : Int) : Decidable (numB n):=inferInstanceAs (Decidable (_ ∧ _))
def allN_ (l : List Int) : Prop:=∀ j, j < l.length → numB (l.getD j 0)
instance (l : List Int) : Decidable (allN_ l):=inferInstanceAs (Decidable (∀ j, j < l.length → _))
def smlB (r : Row) : Prop:=allN_ r.coef ∧ numB r.const
instance (r : Row) : Decidable (smlB r):=inferInstanceAs (Decidable (_ ∧ _))
def widB (s : LSys) : Prop:=∀ j, j < s.rows.length → ((s.rows.getD j row0).coef.length : Int) = s.vars
instance (s : LSys) : Decidable (widB s):=inferInstanceAs (Decidable (∀ j, j < s.rows.length → _))
def smlR (l : List Row) : Prop:=∀ j, j < l.length → smlB (l.getD j row0)
instance (l : List Row) : Decidable (smlR l):=inferInstanceAs (Decidable (∀ j, j < l.length → _))
def sysE (s : LSys) : Int:=if s.vars < 0 ∨ 96 < s.vars then 1 else if ¬ widB s then 1 else if 192 < s.rows.length then 4 else if ¬ smlR s.rows then 4 else 0
def pntB (x : List Int) : Prop:=∀ j, j < x.length → 0 ≤ x.getD j 0 ∧ x.getD j 0 ≤ 1048576
instance (x : List Int) : Decidable (pntB x):=inferInstanceAs (Decidable (∀ j, j < x.length → _))
def lftK (c x : List Int) : Nat → Int
 |0=>0
 |k + 1=>lftK c x k + c.getD k 0 * x.getD k 0
def valR (r : Row) (x : List Int) : Int:=r.const + lftK r.coef x r.coef.length
def satB (s : LSys) (x : List Int) : Prop:=sysE s = 0 ∧ (x.length : Int) = s.vars ∧ pntB x ∧ ∀ j, j < s.rows.length → 0 ≤ valR (s.rows.getD j row0) x
instance (s : LSys) (x : List Int) : Decidable (satB s x):=inferInstanceAs (Decidable (_ ∧ _))
end Go.Proofs.YtnjggjhkfncnlaaGreatDoor
