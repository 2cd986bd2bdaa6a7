/-
  Names, texts and entries: plain functions.
-/
import Derived.Test.YtokoopabnhcheaaAb22
namespace Go.Ab

def isDigit (c : Int) : Bool := decide (48 ≤ c) && decide (c ≤ 57)
def isLetter (c : Int) : Bool := (decide (97 ≤ c) && decide (c ≤ 122)) || (decide (65 ≤ c) && decide (c ≤ 90))
def isWord (c : Int) : Bool := isLetter c || isDigit c || decide (c = 95)
def isPrint (c : Int) : Bool := decide (32 ≤ c) && decide (c ≤ 126)
def cmpNum (a b : Int) : Int := bif decide (a < b) then -1 else bif decide (b < a) then 1 else 0
def goodName (s : List Int) : Bool := decide (1 ≤ s.length) && decide (s.length ≤ 30) && !(isDigit (rd s 0 0)) && s.all isWord
def printed (s : List Int) : Bool := s.all isPrint
def printedIn (s : List Int) (least most : Int) : Bool := !decide ((s.length : Int) < least) && !decide (most < (s.length : Int)) && s.all isPrint
def cmpText : List Int → List Int → Int
  | x :: a, y :: b => bif decide (x = y) then cmpText a b else cmpNum x y
  | a, b => cmpNum a.length b.length
def rising : List (List Int) → Bool
  | a :: b :: r => lessI a b && rising (b :: r)
  | _ => true

theorem cmpNum_neg (a b : Int) : decide (0 ≤ cmpNum a b) = !decide (a < b) := by
  unfold cmpNum
  by_cases h : a < b
  · simp [h]
  · by_cases h2 : b < a <;> simp [h, h2]

theorem cmpText_less : ∀ (a b : List Int), decide (0 ≤ cmpText a b) = !lessI a b
  | [], [] => rfl
  | [], y :: b => by
    show decide (0 ≤ cmpNum 0 ((b.length + 1 : Nat) : Int)) = _
    rw [cmpNum_neg, decide_eq_true (by omega)]; rfl
  | x :: a, [] => by
    show decide (0 ≤ cmpNum ((a.length + 1 : Nat) : Int) 0) = _
    rw [cmpNum_neg, decide_eq_false (by omega)]; rfl
  | x :: a, y :: b => by
    unfold cmpText lessI
    by_cases h : x = y
    · subst h
      simp only [decide_true, cond_true, Bool.true_and]
      rw [cmpText_less a b, decide_eq_false (by omega)]; rfl
    · rw [decide_eq_false h]
      simp only [cond_false, Bool.false_and, Bool.or_false]
      exact cmpNum_neg x y

end Go.Ab
