/-
  What the program's functions compute, in plain Lean: areas and lists of them.
-/
import Derived.Test.YtcgogenmikakkaaAbs12
namespace Go.Abs
set_option linter.unusedVariables false
set_option linter.unusedSimpArgs false
open Go.RowKit

def imax (a b : Int) : Int := if b > a then b else a
def imin (a b : Int) : Int := if b < a then b else a
def aoff (a : Ar) (n : Int) : Int := if a.b = 0 then 0 else wr (wr (a.o + n) - a.s)
def formed (a : Ar) : Bool :=
  if a.s.tmod 4096 = 0 ∧ a.e.tmod 4096 = 0 ∧ 65536 ≤ a.s ∧ a.e ≤ 2097152 ∧ a.s < a.e ∧ 0 ≤ a.p ∧ a.p ≤ 7 ∧ 0 ≤ a.b ∧ a.b ≤ 9 then
    (if a.b = 0 then a.o = 0 else a.o.tmod 4096 = 0 ∧ 0 ≤ a.o ∧ a.o ≤ wr (1099511627776 - wr (a.e - a.s)))
  else false
def has (a : Ar) (n : Int) : Bool := formed a && decide (a.s ≤ n) && decide (n < a.e)
def afloor (n : Int) : Int := wr (n - (wr (n.tmod 4096 + 4096)).tmod 4096)
def aceil (n : Int) : Int := if n > 2097152 then 2097152 else wr (0 - afloor (wr (0 - n)))
def atr (a : Ar) (n : Int) : At := if has a n then ⟨a.p, a.sh, a.b, aoff a (wr (n - n.tmod 4096))⟩ else ⟨0, false, 0, 0⟩
def goes (a b : Ar) : Bool := formed a && formed b && a.e == b.s && a.p == b.p && a.sh == b.sh && a.b == b.b && b.o == aoff a a.e
def ajoin (a b : Ar) : Option Ar := if goes a b && formed { a with e := b.e } then some { a with e := b.e } else none
def apart (a : Ar) (lo hi : Int) : Option Ar :=
  if !formed a || decide (hi ≤ a.s) || decide (lo ≥ a.e) || decide (lo ≥ hi) then none
  else if imax a.s (afloor (imax lo 0)) ≥ imin a.e (aceil hi) then none
  else some { a with o := aoff a (imax a.s (afloor (imax lo 0))), s := imax a.s (afloor (imax lo 0)), e := imin a.e (aceil hi) }
def iand (a b : Int) : Int := wr ↑(BitVec.ofInt 64 a &&& BitVec.ofInt 64 b).toNat
def may (a : Ar) (k : Int) : Bool := decide (k ≥ 1) && decide (k ≤ 7) && (iand a.p k == k)

def rightFrom : Option Ar → List Ar → Bool
  | _, [] => true
  | none, a :: l => formed a && rightFrom (some a) l
  | some p, a :: l => formed a && !(decide (p.e > a.s) || goes p a) && rightFrom (some a) l
def right (l : List Ar) : Bool := rightFrom none l
def prevAt (l : List Ar) : Nat → Option Ar
  | 0 => none
  | i + 1 => l[i]?
def findS (l : List Ar) (n : Int) : Option Ar := if right l then l.find? (fun a => has a n) else none
def withinS (l : List Ar) (lo hi : Int) : List Ar := l.filterMap fun a => apart a lo hi
def WithinS (l : List Ar) (lo hi : Int) : List Ar := if !right l || decide (lo ≥ hi) then [] else withinS l lo hi
def covFrom : Int → List Ar → Option Int
  | at_, [] => some at_
  | at_, p :: l => if p.s = at_ then covFrom p.e l else none
def covEnd (x : Option Int) (hi : Int) : Bool := match x with | none => false | some at_ => decide (at_ ≥ hi)
def covered (l : List Ar) (lo hi : Int) : Bool :=
  right l && decide (lo < hi) && decide (65536 ≤ lo) && decide (hi ≤ 2097152) && covEnd (covFrom (afloor lo) (withinS l lo hi)) hi
def joinStep (out : List Ar) (a : Ar) : List Ar :=
  match out.getLast? with
  | none => [a]
  | some z => match ajoin z a with
    | some j => out.dropLast ++ [j]
    | none => out ++ [a]
def joinedS (l : List Ar) : List Ar := l.foldl joinStep []
def toOf (hi : Int) : Int := if hi < 2097152 then wr (0 - afloor (wr (0 - hi))) else hi
def aheadOf (from_ : Int) (a : Ar) : Option Ar := if from_ > a.s then apart a 65536 (imax from_ 65536) else none
def behindOf (to_ : Int) (a : Ar) : Option Ar := if to_ < a.e then apart a (imax to_ 65536) 2097152 else none
def aheadS (l : List Ar) (lo hi : Int) : List Ar := if lo < hi then l.filterMap (aheadOf (afloor lo)) else l
def behindS (l : List Ar) (lo hi : Int) : List Ar := if lo < hi then l.filterMap (behindOf (toOf hi)) else []
def cutS (l : List Ar) (lo hi : Int) : List Ar := if right l then aheadS l lo hi ++ behindS l lo hi else []
def putS (l : List Ar) (a : Ar) : List Ar := if right l && formed a then joinedS (aheadS l a.s a.e ++ a :: behindS l a.s a.e) else []
def setS (l : List Ar) (lo hi p : Int) : List Ar :=
  if right l && decide (0 ≤ p) && decide (p ≤ 7) then joinedS (aheadS l lo hi ++ ((if lo < hi then withinS l lo hi else []).map (fun a => { a with p := p }) ++ behindS l lo hi)) else []

theorem imax_f (a b : Int) : (if b > a then b else a) = imax a b := rfl
theorem imin_f (a b : Int) : (if b < a then b else a) = imin a b := rfl
attribute [go_sem] imax_f imin_f
end Go.Abs
