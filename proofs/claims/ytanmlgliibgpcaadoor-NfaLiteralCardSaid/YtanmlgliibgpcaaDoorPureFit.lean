/- Plain Lean: small letters, sets of codes, which character fits a node. -/
import Derived.Test.YtanmlgliibgpcaaDoorPureNfa
import Derived.Test.YtanmlgliibgpcaaDoorPureText
namespace Thr

def foldF (c : Int) (bytes : Bool) : Int := if 65 ≤ c ∧ c ≤ 90 ∨ bytes = false ∧ 192 ≤ c ∧ c ≤ 222 ∧ c ≠ 215 then c + 32 else c
def upF (low : Int) (bytes : Bool) : Int := if 0 ≤ low - 32 ∧ foldF (low - 32) bytes = low then low - 32 else low
def hitF (r : Int × Int) (c : Int) : Bool := decide (r.1 ≤ c) && decide (c ≤ r.2)
def inR (r : Int × Int) (c low up : Int) (fold : Bool) : Bool := hitF r c || (fold && (hitF r low || hitF r up))
def inF (set : List (Int × Int)) (c : Int) (fold bytes : Bool) : Bool := set.any fun r => inR r c (foldF c bytes) (upF (foldF c bytes) bytes) fold
def fitsF (t : Rx) (c : Int) (fold bytes : Bool) : Bool :=
  if t.kind = 3 then true
  else if t.kind = 2 then decide (c = t.code) || (fold && decide (foldF c bytes = foldF t.code bytes))
  else inF t.set c fold bytes != t.neg
/-- Letters, digits and '_'. -/
def isWordF (c : Int) : Bool := decide (48 ≤ c ∧ c ≤ 57 ∨ 65 ≤ c ∧ c ≤ 90 ∨ c = 95 ∨ 97 ≤ c ∧ c ≤ 122)
def checkF (kind ahead behind : Int) : Bool :=
  if kind = 8 then decide (ahead < 0) else if kind = 9 then decide (behind < 0)
  else if kind = 10 then isWordF ahead != isWordF behind else if kind = 11 then isWordF ahead == isWordF behind
  else if kind = 12 then !isWordF ahead && isWordF behind else isWordF ahead && !isWordF behind

/-- The code at a place; -1: there is none. -/
def codeAt (s : ByteArray) (i : Int) (bytes : Bool) : Int × Int := if (nextF s i bytes).2 = 0 then (-1, 0) else nextF s i bytes
end Thr
