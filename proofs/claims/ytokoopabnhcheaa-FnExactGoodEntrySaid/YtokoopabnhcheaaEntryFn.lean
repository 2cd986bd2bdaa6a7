/-
  Entries: plain functions.
-/
import Derived.Test.YtokoopabnhcheaaOkLeaf
namespace Go.Ab

def goodPart (p : List Int × List Int) (most : Int) : Bool := goodName p.1 && printedIn p.2 1 most
def goodDirName (l : List (List Int × List Int)) : Bool := l.all (fun p => goodPart p 60) && decide (l.length ≤ 8)
/-- An attribute, behind the name of the one ahead. -/
def goodAttr (prev : Option (List Int)) (a : List Int × List (List Int)) : Bool :=
  goodName a.1 && (match prev with | some p => lessI p a.1 | none => true) && decide (1 ≤ a.2.length) && decide (a.2.length ≤ 30) && rising a.2 && a.2.all (fun v => printedIn v 1 200)
def goodAttrsFrom : Option (List Int) → List (List Int × List (List Int)) → Bool
  | _, [] => true
  | p, a :: r => goodAttr p a && goodAttrsFrom (some a.1) r
def goodAttrs (l : List (List Int × List (List Int))) : Bool := goodAttrsFrom none l
def goodEntry (e : List (List Int × List Int) × List (List Int × List (List Int))) : Bool :=
  goodDirName e.1 && decide (1 ≤ e.1.length) && decide (1 ≤ e.2.length) && decide (e.2.length ≤ 30) && goodAttrs e.2

end Go.Ab
