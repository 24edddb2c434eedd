/-
  SETS AS NUMBERS: what the functions of sets compute, and the laws of it. No program is named here.
-/
import Derived.Test.YtdhlhgomaaiggaaSyC
namespace Go.Pu
open Go.Sy

def validS (s : Int) : Bool := decide (0 ≤ s) && decide (s ≤ 16777215)
def cutS (s : Int) : Int := iand .i64 s 16777215
def subS (a b : Int) : Bool := decide (iandNot .i64 (cutS a) b = 0)
def cmpI (a b : Int) : Int := if a < b then -1 else if b < a then 1 else 0

def pcF : Nat → Nat → Nat
  | 0, _ => 0
  | k + 1, n => n % 2 + pcF k (n / 2)
def popc (x : Int) : Int := pcF 24 x.toNat

/-- the number of a list's first error -/
def listE (l : List Int) : Int := if 1024 < l.length then 4 else if l.all validS then 0 else 3
def listsE : List (List Int) → Int
  | [] => 0
  | l :: ls => if listE l = 0 then listsE ls else listE l
def fewB (l : List Int) : Bool := decide (60 < l.length) && decide (l.length ≤ 1024) || decide (1200 < l.length)
end Go.Pu
