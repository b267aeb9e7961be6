/-
  Joined texts: P0 Te A1 A2 L1 L2.
-/
import Derived.Test.YtcgogenmikakkaaB2
import Derived.Test.YtcgogenmikakkaaProg
/-
  What the program's functions compute, in plain Lean: areas and lists of them.
-/
namespace Go.Abs
set_option linter.unusedVariables false
set_option linter.unusedSimpArgs false
open Go.RowKit

def imax (a b : Int) : Int := if b > a then b else a
def imin (a b : Int) : Int := if b < a then b else a
def aoff (a : Ar) (n : Int) : Int := if a.b = 0 then 0 else wr (wr (a.o + n) - a.s)
def formed (a : Ar) : Bool :=
  if a.s.tmod 4096 = 0 ∧ a.e.tmod 4096 = 0 ∧ 65536 ≤ a.s ∧ a.e ≤ 2097152 ∧ a.s < a.e ∧ 0 ≤ a.p ∧ a.p ≤ 7 ∧ 0 ≤ a.b ∧ a.b ≤ 9 then
    (if a.b = 0 then a.o = 0 else a.o.tmod 4096 = 0 ∧ 0 ≤ a.o ∧ a.o ≤ wr (1099511627776 - wr (a.e - a.s)))
  else false
def has (a : Ar) (n : Int) : Bool := formed a && decide (a.s ≤ n) && decide (n < a.e)
def afloor (n : Int) : Int := wr (n - (wr (n.tmod 4096 + 4096)).tmod 4096)
def aceil (n : Int) : Int := if n > 2097152 then 2097152 else wr (0 - afloor (wr (0 - n)))
def atr (a : Ar) (n : Int) : At := if has a n then ⟨a.p, a.sh, a.b, aoff a (wr (n - n.tmod 4096))⟩ else ⟨0, false, 0, 0⟩
def goes (a b : Ar) : Bool := formed a && formed b && a.e == b.s && a.p == b.p && a.sh == b.sh && a.b == b.b && b.o == aoff a a.e
def ajoin (a b : Ar) : Option Ar := if goes a b && formed { a with e := b.e } then some { a with e := b.e } else none
def apart (a : Ar) (lo hi : Int) : Option Ar :=
  if !formed a || decide (hi ≤ a.s) || decide (lo ≥ a.e) || decide (lo ≥ hi) then none
  else if imax a.s (afloor (imax lo 0)) ≥ imin a.e (aceil hi) then none
  else some { a with o := aoff a (imax a.s (afloor (imax lo 0))), s := imax a.s (afloor (imax lo 0)), e := imin a.e (aceil hi) }
def iand (a b : Int) : Int := wr ↑(BitVec.ofInt 64 a &&& BitVec.ofInt 64 b).toNat
def may (a : Ar) (k : Int) : Bool := decide (k ≥ 1) && decide (k ≤ 7) && (iand a.p k == k)

def rightFrom : Option Ar → List Ar → Bool
  | _, [] => true
  | none, a :: l => formed a && rightFrom (some a) l
  | some p, a :: l => formed a && !(decide (p.e > a.s) || goes p a) && rightFrom (some a) l
def right (l : List Ar) : Bool := rightFrom none l
def prevAt (l : List Ar) : Nat → Option Ar
  | 0 => none
  | i + 1 => l[i]?
def findS (l : List Ar) (n : Int) : Option Ar := if right l then l.find? (fun a => has a n) else none
def withinS (l : List Ar) (lo hi : Int) : List Ar := l.filterMap fun a => apart a lo hi
def WithinS (l : List Ar) (lo hi : Int) : List Ar := if !right l || decide (lo ≥ hi) then [] else withinS l lo hi
def covFrom : Int → List Ar → Option Int
  | at_, [] => some at_
  | at_, p :: l => if p.s = at_ then covFrom p.e l else none
def covEnd (x : Option Int) (hi : Int) : Bool := match x with | none => false | some at_ => decide (at_ ≥ hi)
def covered (l : List Ar) (lo hi : Int) : Bool :=
  right l && decide (lo < hi) && decide (65536 ≤ lo) && decide (hi ≤ 2097152) && covEnd (covFrom (afloor lo) (withinS l lo hi)) hi
def joinStep (out : List Ar) (a : Ar) : List Ar :=
  match out.getLast? with
  | none => [a]
  | some z => match ajoin z a with
    | some j => out.dropLast ++ [j]
    | none => out ++ [a]
def joinedS (l : List Ar) : List Ar := l.foldl joinStep []
def toOf (hi : Int) : Int := if hi < 2097152 then wr (0 - afloor (wr (0 - hi))) else hi
def aheadOf (from_ : Int) (a : Ar) : Option Ar := if from_ > a.s then apart a 65536 (imax from_ 65536) else none
def behindOf (to_ : Int) (a : Ar) : Option Ar := if to_ < a.e then apart a (imax to_ 65536) 2097152 else none
def aheadS (l : List Ar) (lo hi : Int) : List Ar := if lo < hi then l.filterMap (aheadOf (afloor lo)) else l
def behindS (l : List Ar) (lo hi : Int) : List Ar := if lo < hi then l.filterMap (behindOf (toOf hi)) else []
def cutS (l : List Ar) (lo hi : Int) : List Ar := if right l then aheadS l lo hi ++ behindS l lo hi else []
def putS (l : List Ar) (a : Ar) : List Ar := if right l && formed a then joinedS (aheadS l a.s a.e ++ a :: behindS l a.s a.e) else []
def setS (l : List Ar) (lo hi p : Int) : List Ar :=
  if right l && decide (0 ≤ p) && decide (p ≤ 7) then joinedS (aheadS l lo hi ++ ((if lo < hi then withinS l lo hi else []).map (fun a => { a with p := p }) ++ behindS l lo hi)) else []

theorem imax_f (a b : Int) : (if b > a then b else a) = imax a b := rfl
theorem imin_f (a b : Int) : (if b < a then b else a) = imin a b := rfl
attribute [go_sem] imax_f imin_f
end Go.Abs
/-
  The types that the abstract heap knows in this program, and that what is said of them is so.
-/
namespace Go.Abs
set_option linter.unusedVariables false
set_option linter.unusedSimpArgs false
open Go.Proofs
set_option maxRecDepth 100000

def bigz0 : List Value := (List.replicate 512 [.bool false, .int .i64 0, .bool false, .int .i64 0, .int .i64 0]).flatten

def te : Nat → Option TI
  | 2 => some { size := 1, bytes := 8, kind := .int .i64, zero := [.int .i64 0], cmp := false }
  | 3 => some { size := 1, bytes := 8, kind := .int .i64, zero := [.int .i64 0], cmp := false }
  | 4 => some { size := 1, bytes := 1, kind := .bool, zero := [.bool false], cmp := false }
  | 5 => some { size := 1, bytes := 1, kind := .int .u8, zero := [.int .u8 0], cmp := false }
  | 22 => some { size := 1, bytes := 24, kind := .sli 40, zero := [.slice none 0 0], cmp := false }
  | 23 => some { size := 4, bytes := 4, kind := .arr 4 5, zero := [.int .u8 0, .int .u8 0, .int .u8 0, .int .u8 0], cmp := false }
  | 26 => some { size := 1, bytes := 8, kind := .int .i64, zero := [.int .i64 0], cmp := false }
  | 27 => some { size := 4, bytes := 32, kind := .str [(0, 1), (1, 1), (2, 1), (3, 1)], zero := [.int .i64 0, .bool false, .int .i64 0, .int .i64 0], cmp := true }
  | 28 => some { size := 4, bytes := 32, kind := .str [(0, 1), (1, 1), (2, 1), (3, 1)], zero := [.int .i64 0, .bool false, .int .i64 0, .int .i64 0], cmp := true }
  | 29 => some { size := 6, bytes := 48, kind := .str [(0, 1), (1, 1), (2, 4)], zero := [.int .i64 0, .int .i64 0, .int .i64 0, .bool false, .int .i64 0, .int .i64 0], cmp := true }
  | 30 => some { size := 6, bytes := 48, kind := .str [(0, 1), (1, 1), (2, 4)], zero := [.int .i64 0, .int .i64 0, .int .i64 0, .bool false, .int .i64 0, .int .i64 0], cmp := true }
  | 33 => some { size := 9, bytes := 72, kind := .str [(0, 1), (1, 1), (2, 1), (3, 1), (4, 1), (5, 1), (6, 1), (7, 1), (8, 1)], zero := [.int .i64 0, .int .i64 0, .int .i64 0, .int .i64 0, .int .i64 0, .int .i64 0, .int .i64 0, .int .i64 0, .int .i64 0], cmp := true }
  | 34 => some { size := 9, bytes := 72, kind := .str [(0, 1), (1, 1), (2, 1), (3, 1), (4, 1), (5, 1), (6, 1), (7, 1), (8, 1)], zero := [.int .i64 0, .int .i64 0, .int .i64 0, .int .i64 0, .int .i64 0, .int .i64 0, .int .i64 0, .int .i64 0, .int .i64 0], cmp := true }
  | 39 => some { size := 6, bytes := 48, kind := .str [(0, 1), (1, 1), (2, 1), (3, 1), (4, 1), (5, 1)], zero := [.int .i64 0, .int .i64 0, .int .i64 0, .bool false, .int .i64 0, .int .i64 0], cmp := true }
  | 40 => some { size := 6, bytes := 48, kind := .str [(0, 1), (1, 1), (2, 1), (3, 1), (4, 1), (5, 1)], zero := [.int .i64 0, .int .i64 0, .int .i64 0, .bool false, .int .i64 0, .int .i64 0], cmp := true }
  | 43 => some { size := 2, bytes := 16, kind := .arr 2 2, zero := [.int .i64 0, .int .i64 0], cmp := false }
  | 48 => some { size := 5, bytes := 40, kind := .str [(0, 1), (1, 4)], zero := [.bool false, .int .i64 0, .bool false, .int .i64 0, .int .i64 0], cmp := true }
  | 49 => some { size := 5, bytes := 40, kind := .str [(0, 1), (1, 4)], zero := [.bool false, .int .i64 0, .bool false, .int .i64 0, .int .i64 0], cmp := true }
  | 50 => some { size := 2560, bytes := 20480, kind := .arr 512 49, zero := bigz0, cmp := false }
  | 51 => some { size := 2560, bytes := 20480, kind := .arr 512 49, zero := bigz0, cmp := false }
  | 90 => some { size := 1, bytes := 24, kind := .sli 93, zero := [.slice none 0 0], cmp := false }
  | 92 => some { size := 2, bytes := 16, kind := .str [(0, 1), (1, 1)], zero := [.int .i64 0, .int .i64 0], cmp := true }
  | 93 => some { size := 2, bytes := 16, kind := .str [(0, 1), (1, 1)], zero := [.int .i64 0, .int .i64 0], cmp := true }
  | 102 => some { size := 1, bytes := 24, kind := .sli 22, zero := [.slice none 0 0], cmp := false }
  | 108 => some { size := 0, bytes := 0, kind := .arr 0 16, zero := [], cmp := false }
  | _ => none

@[go_sem] theorem te2 : te 2 = some { size := 1, bytes := 8, kind := .int .i64, zero := [.int .i64 0], cmp := false } := rfl
@[go_sem] theorem te3 : te 3 = some { size := 1, bytes := 8, kind := .int .i64, zero := [.int .i64 0], cmp := false } := rfl
@[go_sem] theorem te4 : te 4 = some { size := 1, bytes := 1, kind := .bool, zero := [.bool false], cmp := false } := rfl
@[go_sem] theorem te5 : te 5 = some { size := 1, bytes := 1, kind := .int .u8, zero := [.int .u8 0], cmp := false } := rfl
@[go_sem] theorem te22 : te 22 = some { size := 1, bytes := 24, kind := .sli 40, zero := [.slice none 0 0], cmp := false } := rfl
@[go_sem] theorem te23 : te 23 = some { size := 4, bytes := 4, kind := .arr 4 5, zero := [.int .u8 0, .int .u8 0, .int .u8 0, .int .u8 0], cmp := false } := rfl
@[go_sem] theorem te26 : te 26 = some { size := 1, bytes := 8, kind := .int .i64, zero := [.int .i64 0], cmp := false } := rfl
@[go_sem] theorem te27 : te 27 = some { size := 4, bytes := 32, kind := .str [(0, 1), (1, 1), (2, 1), (3, 1)], zero := [.int .i64 0, .bool false, .int .i64 0, .int .i64 0], cmp := true } := rfl
@[go_sem] theorem te28 : te 28 = some { size := 4, bytes := 32, kind := .str [(0, 1), (1, 1), (2, 1), (3, 1)], zero := [.int .i64 0, .bool false, .int .i64 0, .int .i64 0], cmp := true } := rfl
@[go_sem] theorem te29 : te 29 = some { size := 6, bytes := 48, kind := .str [(0, 1), (1, 1), (2, 4)], zero := [.int .i64 0, .int .i64 0, .int .i64 0, .bool false, .int .i64 0, .int .i64 0], cmp := true } := rfl
@[go_sem] theorem te30 : te 30 = some { size := 6, bytes := 48, kind := .str [(0, 1), (1, 1), (2, 4)], zero := [.int .i64 0, .int .i64 0, .int .i64 0, .bool false, .int .i64 0, .int .i64 0], cmp := true } := rfl
@[go_sem] theorem te33 : te 33 = some { size := 9, bytes := 72, kind := .str [(0, 1), (1, 1), (2, 1), (3, 1), (4, 1), (5, 1), (6, 1), (7, 1), (8, 1)], zero := [.int .i64 0, .int .i64 0, .int .i64 0, .int .i64 0, .int .i64 0, .int .i64 0, .int .i64 0, .int .i64 0, .int .i64 0], cmp := true } := rfl
@[go_sem] theorem te34 : te 34 = some { size := 9, bytes := 72, kind := .str [(0, 1), (1, 1), (2, 1), (3, 1), (4, 1), (5, 1), (6, 1), (7, 1), (8, 1)], zero := [.int .i64 0, .int .i64 0, .int .i64 0, .int .i64 0, .int .i64 0, .int .i64 0, .int .i64 0, .int .i64 0, .int .i64 0], cmp := true } := rfl
@[go_sem] theorem te39 : te 39 = some { size := 6, bytes := 48, kind := .str [(0, 1), (1, 1), (2, 1), (3, 1), (4, 1), (5, 1)], zero := [.int .i64 0, .int .i64 0, .int .i64 0, .bool false, .int .i64 0, .int .i64 0], cmp := true } := rfl
@[go_sem] theorem te40 : te 40 = some { size := 6, bytes := 48, kind := .str [(0, 1), (1, 1), (2, 1), (3, 1), (4, 1), (5, 1)], zero := [.int .i64 0, .int .i64 0, .int .i64 0, .bool false, .int .i64 0, .int .i64 0], cmp := true } := rfl
@[go_sem] theorem te43 : te 43 = some { size := 2, bytes := 16, kind := .arr 2 2, zero := [.int .i64 0, .int .i64 0], cmp := false } := rfl
@[go_sem] theorem te48 : te 48 = some { size := 5, bytes := 40, kind := .str [(0, 1), (1, 4)], zero := [.bool false, .int .i64 0, .bool false, .int .i64 0, .int .i64 0], cmp := true } := rfl
@[go_sem] theorem te49 : te 49 = some { size := 5, bytes := 40, kind := .str [(0, 1), (1, 4)], zero := [.bool false, .int .i64 0, .bool false, .int .i64 0, .int .i64 0], cmp := true } := rfl
@[go_sem] theorem te50 : te 50 = some { size := 2560, bytes := 20480, kind := .arr 512 49, zero := bigz0, cmp := false } := rfl
@[go_sem] theorem te51 : te 51 = some { size := 2560, bytes := 20480, kind := .arr 512 49, zero := bigz0, cmp := false } := rfl
@[go_sem] theorem te90 : te 90 = some { size := 1, bytes := 24, kind := .sli 93, zero := [.slice none 0 0], cmp := false } := rfl
@[go_sem] theorem te92 : te 92 = some { size := 2, bytes := 16, kind := .str [(0, 1), (1, 1)], zero := [.int .i64 0, .int .i64 0], cmp := true } := rfl
@[go_sem] theorem te93 : te 93 = some { size := 2, bytes := 16, kind := .str [(0, 1), (1, 1)], zero := [.int .i64 0, .int .i64 0], cmp := true } := rfl
@[go_sem] theorem te102 : te 102 = some { size := 1, bytes := 24, kind := .sli 22, zero := [.slice none 0 0], cmp := false } := rfl
@[go_sem] theorem te108 : te 108 = some { size := 0, bytes := 0, kind := .arr 0 16, zero := [], cmp := false } := rfl

theorem eqt27a (d : Nat) (w : World) (x0 y0 : Int) (x1 y1 : Bool) (x2 y2 : Int) (x3 y3 : Int) : (Op.equalIn (d + 2) 27 (.agg #[.int .i64 x0, .bool x1, .int .i64 x2, .int .i64 x3]) (.agg #[.int .i64 y0, .bool y1, .int .i64 y2, .int .i64 y3])).run Try.prog w = .ok ((x0 == y0) && ( (x1 == y1) && ( (x2 == y2) && ( (x3 == y3) && ( true))))) w := by
  refine eqA_of Try.underlying27 (by kernel_rfl) ?_
  refine eqf_cons (by rfl) (run_part_int Try.underlying3 rfl) (run_part_int Try.underlying3 rfl) (run_equalIn_int w _ _ _ _ _ _ Try.underlying3) ?_
  refine eqf_cons (by rfl) (run_part_bool Try.underlying4 rfl) (run_part_bool Try.underlying4 rfl) (run_equalIn_bool' w _ _ _ _ Try.underlying4) ?_
  refine eqf_cons (by rfl) (run_part_int Try.underlying3 rfl) (run_part_int Try.underlying3 rfl) (run_equalIn_int w _ _ _ _ _ _ Try.underlying3) ?_
  refine eqf_cons (by rfl) (run_part_int Try.underlying2 rfl) (run_part_int Try.underlying2 rfl) (run_equalIn_int w _ _ _ _ _ _ Try.underlying2) ?_
  exact eqf_nil
theorem eqt27 (d : Nat) (w : World) (x0 y0 : Int) (x1 y1 : Bool) (x2 y2 : Int) (x3 y3 : Int) : (Op.equalIn (d + 2) 27 (.agg #[.int .i64 x0, .bool x1, .int .i64 x2, .int .i64 x3]) (.agg #[.int .i64 y0, .bool y1, .int .i64 y2, .int .i64 y3])).run Try.prog w = .ok (eqL [.int .i64 x0, .bool x1, .int .i64 x2, .int .i64 x3] [.int .i64 y0, .bool y1, .int .i64 y2, .int .i64 y3]) w := by
  rw [eqt27a]
  simp only [eqL, eqV, Bool.and_assoc, Bool.and_true]

theorem eqt28a (d : Nat) (w : World) (x0 y0 : Int) (x1 y1 : Bool) (x2 y2 : Int) (x3 y3 : Int) : (Op.equalIn (d + 2) 28 (.agg #[.int .i64 x0, .bool x1, .int .i64 x2, .int .i64 x3]) (.agg #[.int .i64 y0, .bool y1, .int .i64 y2, .int .i64 y3])).run Try.prog w = .ok ((x0 == y0) && ( (x1 == y1) && ( (x2 == y2) && ( (x3 == y3) && ( true))))) w := by
  refine eqA_of Try.underlying28 (by kernel_rfl) ?_
  refine eqf_cons (by rfl) (run_part_int Try.underlying3 rfl) (run_part_int Try.underlying3 rfl) (run_equalIn_int w _ _ _ _ _ _ Try.underlying3) ?_
  refine eqf_cons (by rfl) (run_part_bool Try.underlying4 rfl) (run_part_bool Try.underlying4 rfl) (run_equalIn_bool' w _ _ _ _ Try.underlying4) ?_
  refine eqf_cons (by rfl) (run_part_int Try.underlying3 rfl) (run_part_int Try.underlying3 rfl) (run_equalIn_int w _ _ _ _ _ _ Try.underlying3) ?_
  refine eqf_cons (by rfl) (run_part_int Try.underlying2 rfl) (run_part_int Try.underlying2 rfl) (run_equalIn_int w _ _ _ _ _ _ Try.underlying2) ?_
  exact eqf_nil
theorem eqt28 (d : Nat) (w : World) (x0 y0 : Int) (x1 y1 : Bool) (x2 y2 : Int) (x3 y3 : Int) : (Op.equalIn (d + 2) 28 (.agg #[.int .i64 x0, .bool x1, .int .i64 x2, .int .i64 x3]) (.agg #[.int .i64 y0, .bool y1, .int .i64 y2, .int .i64 y3])).run Try.prog w = .ok (eqL [.int .i64 x0, .bool x1, .int .i64 x2, .int .i64 x3] [.int .i64 y0, .bool y1, .int .i64 y2, .int .i64 y3]) w := by
  rw [eqt28a]
  simp only [eqL, eqV, Bool.and_assoc, Bool.and_true]

theorem eqt29a (d : Nat) (w : World) (x0 y0 : Int) (x1 y1 : Int) (x2 y2 : Int) (x3 y3 : Bool) (x4 y4 : Int) (x5 y5 : Int) : (Op.equalIn (d + 3) 29 (.agg #[.int .i64 x0, .int .i64 x1, .int .i64 x2, .bool x3, .int .i64 x4, .int .i64 x5]) (.agg #[.int .i64 y0, .int .i64 y1, .int .i64 y2, .bool y3, .int .i64 y4, .int .i64 y5])).run Try.prog w = .ok ((x0 == y0) && ( (x1 == y1) && ( (eqL [.int .i64 x2, .bool x3, .int .i64 x4, .int .i64 x5] [.int .i64 y2, .bool y3, .int .i64 y4, .int .i64 y5]) && ( true)))) w := by
  refine eqA_of Try.underlying29 (by kernel_rfl) ?_
  refine eqf_cons (by rfl) (run_part_int Try.underlying26 rfl) (run_part_int Try.underlying26 rfl) (run_equalIn_int w _ _ _ _ _ _ Try.underlying26) ?_
  refine eqf_cons (by rfl) (run_part_int Try.underlying2 rfl) (run_part_int Try.underlying2 rfl) (run_equalIn_int w _ _ _ _ _ _ Try.underlying2) ?_
  refine eqf_cons (by rfl) (run_part_agg Try.underlying28 (n := 4) (by kernel_rfl) (by decide)) (run_part_agg Try.underlying28 (n := 4) (by kernel_rfl) (by decide)) (eqt28 (d + 0) w x2 y2 x3 y3 x4 y4 x5 y5) ?_
  exact eqf_nil
theorem eqt29 (d : Nat) (w : World) (x0 y0 : Int) (x1 y1 : Int) (x2 y2 : Int) (x3 y3 : Bool) (x4 y4 : Int) (x5 y5 : Int) : (Op.equalIn (d + 3) 29 (.agg #[.int .i64 x0, .int .i64 x1, .int .i64 x2, .bool x3, .int .i64 x4, .int .i64 x5]) (.agg #[.int .i64 y0, .int .i64 y1, .int .i64 y2, .bool y3, .int .i64 y4, .int .i64 y5])).run Try.prog w = .ok (eqL [.int .i64 x0, .int .i64 x1, .int .i64 x2, .bool x3, .int .i64 x4, .int .i64 x5] [.int .i64 y0, .int .i64 y1, .int .i64 y2, .bool y3, .int .i64 y4, .int .i64 y5]) w := by
  rw [eqt29a]
  simp only [eqL, eqV, Bool.and_assoc, Bool.and_true]

theorem eqt30a (d : Nat) (w : World) (x0 y0 : Int) (x1 y1 : Int) (x2 y2 : Int) (x3 y3 : Bool) (x4 y4 : Int) (x5 y5 : Int) : (Op.equalIn (d + 3) 30 (.agg #[.int .i64 x0, .int .i64 x1, .int .i64 x2, .bool x3, .int .i64 x4, .int .i64 x5]) (.agg #[.int .i64 y0, .int .i64 y1, .int .i64 y2, .bool y3, .int .i64 y4, .int .i64 y5])).run Try.prog w = .ok ((x0 == y0) && ( (x1 == y1) && ( (eqL [.int .i64 x2, .bool x3, .int .i64 x4, .int .i64 x5] [.int .i64 y2, .bool y3, .int .i64 y4, .int .i64 y5]) && ( true)))) w := by
  refine eqA_of Try.underlying30 (by kernel_rfl) ?_
  refine eqf_cons (by rfl) (run_part_int Try.underlying26 rfl) (run_part_int Try.underlying26 rfl) (run_equalIn_int w _ _ _ _ _ _ Try.underlying26) ?_
  refine eqf_cons (by rfl) (run_part_int Try.underlying2 rfl) (run_part_int Try.underlying2 rfl) (run_equalIn_int w _ _ _ _ _ _ Try.underlying2) ?_
  refine eqf_cons (by rfl) (run_part_agg Try.underlying28 (n := 4) (by kernel_rfl) (by decide)) (run_part_agg Try.underlying28 (n := 4) (by kernel_rfl) (by decide)) (eqt28 (d + 0) w x2 y2 x3 y3 x4 y4 x5 y5) ?_
  exact eqf_nil
theorem eqt30 (d : Nat) (w : World) (x0 y0 : Int) (x1 y1 : Int) (x2 y2 : Int) (x3 y3 : Bool) (x4 y4 : Int) (x5 y5 : Int) : (Op.equalIn (d + 3) 30 (.agg #[.int .i64 x0, .int .i64 x1, .int .i64 x2, .bool x3, .int .i64 x4, .int .i64 x5]) (.agg #[.int .i64 y0, .int .i64 y1, .int .i64 y2, .bool y3, .int .i64 y4, .int .i64 y5])).run Try.prog w = .ok (eqL [.int .i64 x0, .int .i64 x1, .int .i64 x2, .bool x3, .int .i64 x4, .int .i64 x5] [.int .i64 y0, .int .i64 y1, .int .i64 y2, .bool y3, .int .i64 y4, .int .i64 y5]) w := by
  rw [eqt30a]
  simp only [eqL, eqV, Bool.and_assoc, Bool.and_true]

theorem eqt33a (d : Nat) (w : World) (x0 y0 : Int) (x1 y1 : Int) (x2 y2 : Int) (x3 y3 : Int) (x4 y4 : Int) (x5 y5 : Int) (x6 y6 : Int) (x7 y7 : Int) (x8 y8 : Int) : (Op.equalIn (d + 2) 33 (.agg #[.int .i64 x0, .int .i64 x1, .int .i64 x2, .int .i64 x3, .int .i64 x4, .int .i64 x5, .int .i64 x6, .int .i64 x7, .int .i64 x8]) (.agg #[.int .i64 y0, .int .i64 y1, .int .i64 y2, .int .i64 y3, .int .i64 y4, .int .i64 y5, .int .i64 y6, .int .i64 y7, .int .i64 y8])).run Try.prog w = .ok ((x0 == y0) && ( (x1 == y1) && ( (x2 == y2) && ( (x3 == y3) && ( (x4 == y4) && ( (x5 == y5) && ( (x6 == y6) && ( (x7 == y7) && ( (x8 == y8) && ( true)))))))))) w := by
  refine eqA_of Try.underlying33 (by kernel_rfl) ?_
  refine eqf_cons (by rfl) (run_part_int Try.underlying3 rfl) (run_part_int Try.underlying3 rfl) (run_equalIn_int w _ _ _ _ _ _ Try.underlying3) ?_
  refine eqf_cons (by rfl) (run_part_int Try.underlying2 rfl) (run_part_int Try.underlying2 rfl) (run_equalIn_int w _ _ _ _ _ _ Try.underlying2) ?_
  refine eqf_cons (by rfl) (run_part_int Try.underlying2 rfl) (run_part_int Try.underlying2 rfl) (run_equalIn_int w _ _ _ _ _ _ Try.underlying2) ?_
  refine eqf_cons (by rfl) (run_part_int Try.underlying2 rfl) (run_part_int Try.underlying2 rfl) (run_equalIn_int w _ _ _ _ _ _ Try.underlying2) ?_
  refine eqf_cons (by rfl) (run_part_int Try.underlying2 rfl) (run_part_int Try.underlying2 rfl) (run_equalIn_int w _ _ _ _ _ _ Try.underlying2) ?_
  refine eqf_cons (by rfl) (run_part_int Try.underlying3 rfl) (run_part_int Try.underlying3 rfl) (run_equalIn_int w _ _ _ _ _ _ Try.underlying3) ?_
  refine eqf_cons (by rfl) (run_part_int Try.underlying3 rfl) (run_part_int Try.underlying3 rfl) (run_equalIn_int w _ _ _ _ _ _ Try.underlying3) ?_
  refine eqf_cons (by rfl) (run_part_int Try.underlying3 rfl) (run_part_int Try.underlying3 rfl) (run_equalIn_int w _ _ _ _ _ _ Try.underlying3) ?_
  refine eqf_cons (by rfl) (run_part_int Try.underlying2 rfl) (run_part_int Try.underlying2 rfl) (run_equalIn_int w _ _ _ _ _ _ Try.underlying2) ?_
  exact eqf_nil
theorem eqt33 (d : Nat) (w : World) (x0 y0 : Int) (x1 y1 : Int) (x2 y2 : Int) (x3 y3 : Int) (x4 y4 : Int) (x5 y5 : Int) (x6 y6 : Int) (x7 y7 : Int) (x8 y8 : Int) : (Op.equalIn (d + 2) 33 (.agg #[.int .i64 x0, .int .i64 x1, .int .i64 x2, .int .i64 x3, .int .i64 x4, .int .i64 x5, .int .i64 x6, .int .i64 x7, .int .i64 x8]) (.agg #[.int .i64 y0, .int .i64 y1, .int .i64 y2, .int .i64 y3, .int .i64 y4, .int .i64 y5, .int .i64 y6, .int .i64 y7, .int .i64 y8])).run Try.prog w = .ok (eqL [.int .i64 x0, .int .i64 x1, .int .i64 x2, .int .i64 x3, .int .i64 x4, .int .i64 x5, .int .i64 x6, .int .i64 x7, .int .i64 x8] [.int .i64 y0, .int .i64 y1, .int .i64 y2, .int .i64 y3, .int .i64 y4, .int .i64 y5, .int .i64 y6, .int .i64 y7, .int .i64 y8]) w := by
  rw [eqt33a]
  simp only [eqL, eqV, Bool.and_assoc, Bool.and_true]

theorem eqt34a (d : Nat) (w : World) (x0 y0 : Int) (x1 y1 : Int) (x2 y2 : Int) (x3 y3 : Int) (x4 y4 : Int) (x5 y5 : Int) (x6 y6 : Int) (x7 y7 : Int) (x8 y8 : Int) : (Op.equalIn (d + 2) 34 (.agg #[.int .i64 x0, .int .i64 x1, .int .i64 x2, .int .i64 x3, .int .i64 x4, .int .i64 x5, .int .i64 x6, .int .i64 x7, .int .i64 x8]) (.agg #[.int .i64 y0, .int .i64 y1, .int .i64 y2, .int .i64 y3, .int .i64 y4, .int .i64 y5, .int .i64 y6, .int .i64 y7, .int .i64 y8])).run Try.prog w = .ok ((x0 == y0) && ( (x1 == y1) && ( (x2 == y2) && ( (x3 == y3) && ( (x4 == y4) && ( (x5 == y5) && ( (x6 == y6) && ( (x7 == y7) && ( (x8 == y8) && ( true)))))))))) w := by
  refine eqA_of Try.underlying34 (by kernel_rfl) ?_
  refine eqf_cons (by rfl) (run_part_int Try.underlying3 rfl) (run_part_int Try.underlying3 rfl) (run_equalIn_int w _ _ _ _ _ _ Try.underlying3) ?_
  refine eqf_cons (by rfl) (run_part_int Try.underlying2 rfl) (run_part_int Try.underlying2 rfl) (run_equalIn_int w _ _ _ _ _ _ Try.underlying2) ?_
  refine eqf_cons (by rfl) (run_part_int Try.underlying2 rfl) (run_part_int Try.underlying2 rfl) (run_equalIn_int w _ _ _ _ _ _ Try.underlying2) ?_
  refine eqf_cons (by rfl) (run_part_int Try.underlying2 rfl) (run_part_int Try.underlying2 rfl) (run_equalIn_int w _ _ _ _ _ _ Try.underlying2) ?_
  refine eqf_cons (by rfl) (run_part_int Try.underlying2 rfl) (run_part_int Try.underlying2 rfl) (run_equalIn_int w _ _ _ _ _ _ Try.underlying2) ?_
  refine eqf_cons (by rfl) (run_part_int Try.underlying3 rfl) (run_part_int Try.underlying3 rfl) (run_equalIn_int w _ _ _ _ _ _ Try.underlying3) ?_
  refine eqf_cons (by rfl) (run_part_int Try.underlying3 rfl) (run_part_int Try.underlying3 rfl) (run_equalIn_int w _ _ _ _ _ _ Try.underlying3) ?_
  refine eqf_cons (by rfl) (run_part_int Try.underlying3 rfl) (run_part_int Try.underlying3 rfl) (run_equalIn_int w _ _ _ _ _ _ Try.underlying3) ?_
  refine eqf_cons (by rfl) (run_part_int Try.underlying2 rfl) (run_part_int Try.underlying2 rfl) (run_equalIn_int w _ _ _ _ _ _ Try.underlying2) ?_
  exact eqf_nil
theorem eqt34 (d : Nat) (w : World) (x0 y0 : Int) (x1 y1 : Int) (x2 y2 : Int) (x3 y3 : Int) (x4 y4 : Int) (x5 y5 : Int) (x6 y6 : Int) (x7 y7 : Int) (x8 y8 : Int) : (Op.equalIn (d + 2) 34 (.agg #[.int .i64 x0, .int .i64 x1, .int .i64 x2, .int .i64 x3, .int .i64 x4, .int .i64 x5, .int .i64 x6, .int .i64 x7, .int .i64 x8]) (.agg #[.int .i64 y0, .int .i64 y1, .int .i64 y2, .int .i64 y3, .int .i64 y4, .int .i64 y5, .int .i64 y6, .int .i64 y7, .int .i64 y8])).run Try.prog w = .ok (eqL [.int .i64 x0, .int .i64 x1, .int .i64 x2, .int .i64 x3, .int .i64 x4, .int .i64 x5, .int .i64 x6, .int .i64 x7, .int .i64 x8] [.int .i64 y0, .int .i64 y1, .int .i64 y2, .int .i64 y3, .int .i64 y4, .int .i64 y5, .int .i64 y6, .int .i64 y7, .int .i64 y8]) w := by
  rw [eqt34a]
  simp only [eqL, eqV, Bool.and_assoc, Bool.and_true]

theorem eqt39a (d : Nat) (w : World) (x0 y0 : Int) (x1 y1 : Int) (x2 y2 : Int) (x3 y3 : Bool) (x4 y4 : Int) (x5 y5 : Int) : (Op.equalIn (d + 2) 39 (.agg #[.int .i64 x0, .int .i64 x1, .int .i64 x2, .bool x3, .int .i64 x4, .int .i64 x5]) (.agg #[.int .i64 y0, .int .i64 y1, .int .i64 y2, .bool y3, .int .i64 y4, .int .i64 y5])).run Try.prog w = .ok ((x0 == y0) && ( (x1 == y1) && ( (x2 == y2) && ( (x3 == y3) && ( (x4 == y4) && ( (x5 == y5) && ( true))))))) w := by
  refine eqA_of Try.underlying39 (by kernel_rfl) ?_
  refine eqf_cons (by rfl) (run_part_int Try.underlying2 rfl) (run_part_int Try.underlying2 rfl) (run_equalIn_int w _ _ _ _ _ _ Try.underlying2) ?_
  refine eqf_cons (by rfl) (run_part_int Try.underlying2 rfl) (run_part_int Try.underlying2 rfl) (run_equalIn_int w _ _ _ _ _ _ Try.underlying2) ?_
  refine eqf_cons (by rfl) (run_part_int Try.underlying3 rfl) (run_part_int Try.underlying3 rfl) (run_equalIn_int w _ _ _ _ _ _ Try.underlying3) ?_
  refine eqf_cons (by rfl) (run_part_bool Try.underlying4 rfl) (run_part_bool Try.underlying4 rfl) (run_equalIn_bool' w _ _ _ _ Try.underlying4) ?_
  refine eqf_cons (by rfl) (run_part_int Try.underlying3 rfl) (run_part_int Try.underlying3 rfl) (run_equalIn_int w _ _ _ _ _ _ Try.underlying3) ?_
  refine eqf_cons (by rfl) (run_part_int Try.underlying2 rfl) (run_part_int Try.underlying2 rfl) (run_equalIn_int w _ _ _ _ _ _ Try.underlying2) ?_
  exact eqf_nil
theorem eqt39 (d : Nat) (w : World) (x0 y0 : Int) (x1 y1 : Int) (x2 y2 : Int) (x3 y3 : Bool) (x4 y4 : Int) (x5 y5 : Int) : (Op.equalIn (d + 2) 39 (.agg #[.int .i64 x0, .int .i64 x1, .int .i64 x2, .bool x3, .int .i64 x4, .int .i64 x5]) (.agg #[.int .i64 y0, .int .i64 y1, .int .i64 y2, .bool y3, .int .i64 y4, .int .i64 y5])).run Try.prog w = .ok (eqL [.int .i64 x0, .int .i64 x1, .int .i64 x2, .bool x3, .int .i64 x4, .int .i64 x5] [.int .i64 y0, .int .i64 y1, .int .i64 y2, .bool y3, .int .i64 y4, .int .i64 y5]) w := by
  rw [eqt39a]
  simp only [eqL, eqV, Bool.and_assoc, Bool.and_true]

theorem eqt40a (d : Nat) (w : World) (x0 y0 : Int) (x1 y1 : Int) (x2 y2 : Int) (x3 y3 : Bool) (x4 y4 : Int) (x5 y5 : Int) : (Op.equalIn (d + 2) 40 (.agg #[.int .i64 x0, .int .i64 x1, .int .i64 x2, .bool x3, .int .i64 x4, .int .i64 x5]) (.agg #[.int .i64 y0, .int .i64 y1, .int .i64 y2, .bool y3, .int .i64 y4, .int .i64 y5])).run Try.prog w = .ok ((x0 == y0) && ( (x1 == y1) && ( (x2 == y2) && ( (x3 == y3) && ( (x4 == y4) && ( (x5 == y5) && ( true))))))) w := by
  refine eqA_of Try.underlying40 (by kernel_rfl) ?_
  refine eqf_cons (by rfl) (run_part_int Try.underlying2 rfl) (run_part_int Try.underlying2 rfl) (run_equalIn_int w _ _ _ _ _ _ Try.underlying2) ?_
  refine eqf_cons (by rfl) (run_part_int Try.underlying2 rfl) (run_part_int Try.underlying2 rfl) (run_equalIn_int w _ _ _ _ _ _ Try.underlying2) ?_
  refine eqf_cons (by rfl) (run_part_int Try.underlying3 rfl) (run_part_int Try.underlying3 rfl) (run_equalIn_int w _ _ _ _ _ _ Try.underlying3) ?_
  refine eqf_cons (by rfl) (run_part_bool Try.underlying4 rfl) (run_part_bool Try.underlying4 rfl) (run_equalIn_bool' w _ _ _ _ Try.underlying4) ?_
  refine eqf_cons (by rfl) (run_part_int Try.underlying3 rfl) (run_part_int Try.underlying3 rfl) (run_equalIn_int w _ _ _ _ _ _ Try.underlying3) ?_
  refine eqf_cons (by rfl) (run_part_int Try.underlying2 rfl) (run_part_int Try.underlying2 rfl) (run_equalIn_int w _ _ _ _ _ _ Try.underlying2) ?_
  exact eqf_nil
theorem eqt40 (d : Nat) (w : World) (x0 y0 : Int) (x1 y1 : Int) (x2 y2 : Int) (x3 y3 : Bool) (x4 y4 : Int) (x5 y5 : Int) : (Op.equalIn (d + 2) 40 (.agg #[.int .i64 x0, .int .i64 x1, .int .i64 x2, .bool x3, .int .i64 x4, .int .i64 x5]) (.agg #[.int .i64 y0, .int .i64 y1, .int .i64 y2, .bool y3, .int .i64 y4, .int .i64 y5])).run Try.prog w = .ok (eqL [.int .i64 x0, .int .i64 x1, .int .i64 x2, .bool x3, .int .i64 x4, .int .i64 x5] [.int .i64 y0, .int .i64 y1, .int .i64 y2, .bool y3, .int .i64 y4, .int .i64 y5]) w := by
  rw [eqt40a]
  simp only [eqL, eqV, Bool.and_assoc, Bool.and_true]

theorem eqt48a (d : Nat) (w : World) (x0 y0 : Bool) (x1 y1 : Int) (x2 y2 : Bool) (x3 y3 : Int) (x4 y4 : Int) : (Op.equalIn (d + 3) 48 (.agg #[.bool x0, .int .i64 x1, .bool x2, .int .i64 x3, .int .i64 x4]) (.agg #[.bool y0, .int .i64 y1, .bool y2, .int .i64 y3, .int .i64 y4])).run Try.prog w = .ok ((x0 == y0) && ( (eqL [.int .i64 x1, .bool x2, .int .i64 x3, .int .i64 x4] [.int .i64 y1, .bool y2, .int .i64 y3, .int .i64 y4]) && ( true))) w := by
  refine eqA_of Try.underlying48 (by kernel_rfl) ?_
  refine eqf_cons (by rfl) (run_part_bool Try.underlying4 rfl) (run_part_bool Try.underlying4 rfl) (run_equalIn_bool' w _ _ _ _ Try.underlying4) ?_
  refine eqf_cons (by rfl) (run_part_agg Try.underlying28 (n := 4) (by kernel_rfl) (by decide)) (run_part_agg Try.underlying28 (n := 4) (by kernel_rfl) (by decide)) (eqt28 (d + 0) w x1 y1 x2 y2 x3 y3 x4 y4) ?_
  exact eqf_nil
theorem eqt48 (d : Nat) (w : World) (x0 y0 : Bool) (x1 y1 : Int) (x2 y2 : Bool) (x3 y3 : Int) (x4 y4 : Int) : (Op.equalIn (d + 3) 48 (.agg #[.bool x0, .int .i64 x1, .bool x2, .int .i64 x3, .int .i64 x4]) (.agg #[.bool y0, .int .i64 y1, .bool y2, .int .i64 y3, .int .i64 y4])).run Try.prog w = .ok (eqL [.bool x0, .int .i64 x1, .bool x2, .int .i64 x3, .int .i64 x4] [.bool y0, .int .i64 y1, .bool y2, .int .i64 y3, .int .i64 y4]) w := by
  rw [eqt48a]
  simp only [eqL, eqV, Bool.and_assoc, Bool.and_true]

theorem eqt49a (d : Nat) (w : World) (x0 y0 : Bool) (x1 y1 : Int) (x2 y2 : Bool) (x3 y3 : Int) (x4 y4 : Int) : (Op.equalIn (d + 3) 49 (.agg #[.bool x0, .int .i64 x1, .bool x2, .int .i64 x3, .int .i64 x4]) (.agg #[.bool y0, .int .i64 y1, .bool y2, .int .i64 y3, .int .i64 y4])).run Try.prog w = .ok ((x0 == y0) && ( (eqL [.int .i64 x1, .bool x2, .int .i64 x3, .int .i64 x4] [.int .i64 y1, .bool y2, .int .i64 y3, .int .i64 y4]) && ( true))) w := by
  refine eqA_of Try.underlying49 (by kernel_rfl) ?_
  refine eqf_cons (by rfl) (run_part_bool Try.underlying4 rfl) (run_part_bool Try.underlying4 rfl) (run_equalIn_bool' w _ _ _ _ Try.underlying4) ?_
  refine eqf_cons (by rfl) (run_part_agg Try.underlying28 (n := 4) (by kernel_rfl) (by decide)) (run_part_agg Try.underlying28 (n := 4) (by kernel_rfl) (by decide)) (eqt28 (d + 0) w x1 y1 x2 y2 x3 y3 x4 y4) ?_
  exact eqf_nil
theorem eqt49 (d : Nat) (w : World) (x0 y0 : Bool) (x1 y1 : Int) (x2 y2 : Bool) (x3 y3 : Int) (x4 y4 : Int) : (Op.equalIn (d + 3) 49 (.agg #[.bool x0, .int .i64 x1, .bool x2, .int .i64 x3, .int .i64 x4]) (.agg #[.bool y0, .int .i64 y1, .bool y2, .int .i64 y3, .int .i64 y4])).run Try.prog w = .ok (eqL [.bool x0, .int .i64 x1, .bool x2, .int .i64 x3, .int .i64 x4] [.bool y0, .int .i64 y1, .bool y2, .int .i64 y3, .int .i64 y4]) w := by
  rw [eqt49a]
  simp only [eqL, eqV, Bool.and_assoc, Bool.and_true]

theorem eqt92a (d : Nat) (w : World) (x0 y0 : Int) (x1 y1 : Int) : (Op.equalIn (d + 2) 92 (.agg #[.int .i64 x0, .int .i64 x1]) (.agg #[.int .i64 y0, .int .i64 y1])).run Try.prog w = .ok ((x0 == y0) && ( (x1 == y1) && ( true))) w := by
  refine eqA_of Try.underlying92 (by kernel_rfl) ?_
  refine eqf_cons (by rfl) (run_part_int Try.underlying2 rfl) (run_part_int Try.underlying2 rfl) (run_equalIn_int w _ _ _ _ _ _ Try.underlying2) ?_
  refine eqf_cons (by rfl) (run_part_int Try.underlying2 rfl) (run_part_int Try.underlying2 rfl) (run_equalIn_int w _ _ _ _ _ _ Try.underlying2) ?_
  exact eqf_nil
theorem eqt92 (d : Nat) (w : World) (x0 y0 : Int) (x1 y1 : Int) : (Op.equalIn (d + 2) 92 (.agg #[.int .i64 x0, .int .i64 x1]) (.agg #[.int .i64 y0, .int .i64 y1])).run Try.prog w = .ok (eqL [.int .i64 x0, .int .i64 x1] [.int .i64 y0, .int .i64 y1]) w := by
  rw [eqt92a]
  simp only [eqL, eqV, Bool.and_assoc, Bool.and_true]

theorem eqt93a (d : Nat) (w : World) (x0 y0 : Int) (x1 y1 : Int) : (Op.equalIn (d + 2) 93 (.agg #[.int .i64 x0, .int .i64 x1]) (.agg #[.int .i64 y0, .int .i64 y1])).run Try.prog w = .ok ((x0 == y0) && ( (x1 == y1) && ( true))) w := by
  refine eqA_of Try.underlying93 (by kernel_rfl) ?_
  refine eqf_cons (by rfl) (run_part_int Try.underlying2 rfl) (run_part_int Try.underlying2 rfl) (run_equalIn_int w _ _ _ _ _ _ Try.underlying2) ?_
  refine eqf_cons (by rfl) (run_part_int Try.underlying2 rfl) (run_part_int Try.underlying2 rfl) (run_equalIn_int w _ _ _ _ _ _ Try.underlying2) ?_
  exact eqf_nil
theorem eqt93 (d : Nat) (w : World) (x0 y0 : Int) (x1 y1 : Int) : (Op.equalIn (d + 2) 93 (.agg #[.int .i64 x0, .int .i64 x1]) (.agg #[.int .i64 y0, .int .i64 y1])).run Try.prog w = .ok (eqL [.int .i64 x0, .int .i64 x1] [.int .i64 y0, .int .i64 y1]) w := by
  rw [eqt93a]
  simp only [eqL, eqV, Bool.and_assoc, Bool.and_true]

theorem tiok2 : TIok Try.prog 2 { size := 1, bytes := 8, kind := .int .i64, zero := [.int .i64 0], cmp := false } where
  info := ⟨Try.t2, by kernel_rfl, by kernel_rfl, by kernel_rfl, (.int .i64 0), by kernel_rfl, by kernel_rfl⟩
  kind := Try.underlying2
  zsc := List.all_eq_true.1 (by kernel_rfl)
  zsz := by kernel_rfl
  cmp := fun h => by cases h

theorem tiok3 : TIok Try.prog 3 { size := 1, bytes := 8, kind := .int .i64, zero := [.int .i64 0], cmp := false } where
  info := ⟨Try.t3, by kernel_rfl, by kernel_rfl, by kernel_rfl, (.int .i64 0), by kernel_rfl, by kernel_rfl⟩
  kind := Try.underlying3
  zsc := List.all_eq_true.1 (by kernel_rfl)
  zsz := by kernel_rfl
  cmp := fun h => by cases h

theorem tiok4 : TIok Try.prog 4 { size := 1, bytes := 1, kind := .bool, zero := [.bool false], cmp := false } where
  info := ⟨Try.t4, by kernel_rfl, by kernel_rfl, by kernel_rfl, (.bool false), by kernel_rfl, by kernel_rfl⟩
  kind := Try.underlying4
  zsc := List.all_eq_true.1 (by kernel_rfl)
  zsz := by kernel_rfl
  cmp := fun h => by cases h

theorem tiok5 : TIok Try.prog 5 { size := 1, bytes := 1, kind := .int .u8, zero := [.int .u8 0], cmp := false } where
  info := ⟨Try.t5, by kernel_rfl, by kernel_rfl, by kernel_rfl, (.int .u8 0), by kernel_rfl, by kernel_rfl⟩
  kind := Try.underlying5
  zsc := List.all_eq_true.1 (by kernel_rfl)
  zsz := by kernel_rfl
  cmp := fun h => by cases h

theorem tiok22 : TIok Try.prog 22 { size := 1, bytes := 24, kind := .sli 40, zero := [.slice none 0 0], cmp := false } where
  info := ⟨Try.t22, by kernel_rfl, by kernel_rfl, by kernel_rfl, (.slice none 0 0), by kernel_rfl, by kernel_rfl⟩
  kind := Try.underlying22
  zsc := List.all_eq_true.1 (by kernel_rfl)
  zsz := by kernel_rfl
  cmp := fun h => by cases h

theorem tiok23 : TIok Try.prog 23 { size := 4, bytes := 4, kind := .arr 4 5, zero := [.int .u8 0, .int .u8 0, .int .u8 0, .int .u8 0], cmp := false } where
  info := ⟨Try.t23, by kernel_rfl, by kernel_rfl, by kernel_rfl, (.agg [.int .u8 0, .int .u8 0, .int .u8 0, .int .u8 0].toArray), by kernel_rfl, by kernel_rfl⟩
  kind := Try.underlying23
  zsc := List.all_eq_true.1 (by kernel_rfl)
  zsz := by kernel_rfl
  cmp := fun h => by cases h

theorem tiok26 : TIok Try.prog 26 { size := 1, bytes := 8, kind := .int .i64, zero := [.int .i64 0], cmp := false } where
  info := ⟨Try.t26, by kernel_rfl, by kernel_rfl, by kernel_rfl, (.int .i64 0), by kernel_rfl, by kernel_rfl⟩
  kind := Try.underlying26
  zsc := List.all_eq_true.1 (by kernel_rfl)
  zsz := by kernel_rfl
  cmp := fun h => by cases h

theorem tiok27 : TIok Try.prog 27 { size := 4, bytes := 32, kind := .str [(0, 1), (1, 1), (2, 1), (3, 1)], zero := [.int .i64 0, .bool false, .int .i64 0, .int .i64 0], cmp := true } where
  info := ⟨Try.t27, by kernel_rfl, by kernel_rfl, by kernel_rfl, (.agg [.int .i64 0, .bool false, .int .i64 0, .int .i64 0].toArray), by kernel_rfl, by kernel_rfl⟩
  kind := ⟨_, Try.underlying27, by kernel_rfl⟩
  zsc := List.all_eq_true.1 (by kernel_rfl)
  zsz := by kernel_rfl
  cmp := fun _ xs ys w hx hy => by
    refine ⟨Try.eqGuardType27, ?_⟩
    obtain ⟨x0, xr0, rfl, hx_0⟩ := shape_int hx
    obtain ⟨x1, xr1, rfl, hx_1⟩ := shape_bool hx_0
    obtain ⟨x2, xr2, rfl, hx_2⟩ := shape_int hx_1
    obtain ⟨x3, xr3, rfl, hx_3⟩ := shape_int hx_2
    obtain rfl := shape_nil hx_3
    obtain ⟨y0, yr0, rfl, hy_0⟩ := shape_int hy
    obtain ⟨y1, yr1, rfl, hy_1⟩ := shape_bool hy_0
    obtain ⟨y2, yr2, rfl, hy_2⟩ := shape_int hy_1
    obtain ⟨y3, yr3, rfl, hy_3⟩ := shape_int hy_2
    obtain rfl := shape_nil hy_3
    exact eqt27 9998 w x0 y0 x1 y1 x2 y2 x3 y3

theorem tiok28 : TIok Try.prog 28 { size := 4, bytes := 32, kind := .str [(0, 1), (1, 1), (2, 1), (3, 1)], zero := [.int .i64 0, .bool false, .int .i64 0, .int .i64 0], cmp := true } where
  info := ⟨Try.t28, by kernel_rfl, by kernel_rfl, by kernel_rfl, (.agg [.int .i64 0, .bool false, .int .i64 0, .int .i64 0].toArray), by kernel_rfl, by kernel_rfl⟩
  kind := ⟨_, Try.underlying28, by kernel_rfl⟩
  zsc := List.all_eq_true.1 (by kernel_rfl)
  zsz := by kernel_rfl
  cmp := fun _ xs ys w hx hy => by
    refine ⟨Try.eqGuardType28, ?_⟩
    obtain ⟨x0, xr0, rfl, hx_0⟩ := shape_int hx
    obtain ⟨x1, xr1, rfl, hx_1⟩ := shape_bool hx_0
    obtain ⟨x2, xr2, rfl, hx_2⟩ := shape_int hx_1
    obtain ⟨x3, xr3, rfl, hx_3⟩ := shape_int hx_2
    obtain rfl := shape_nil hx_3
    obtain ⟨y0, yr0, rfl, hy_0⟩ := shape_int hy
    obtain ⟨y1, yr1, rfl, hy_1⟩ := shape_bool hy_0
    obtain ⟨y2, yr2, rfl, hy_2⟩ := shape_int hy_1
    obtain ⟨y3, yr3, rfl, hy_3⟩ := shape_int hy_2
    obtain rfl := shape_nil hy_3
    exact eqt28 9998 w x0 y0 x1 y1 x2 y2 x3 y3

theorem tiok29 : TIok Try.prog 29 { size := 6, bytes := 48, kind := .str [(0, 1), (1, 1), (2, 4)], zero := [.int .i64 0, .int .i64 0, .int .i64 0, .bool false, .int .i64 0, .int .i64 0], cmp := true } where
  info := ⟨Try.t29, by kernel_rfl, by kernel_rfl, by kernel_rfl, (.agg [.int .i64 0, .int .i64 0, .int .i64 0, .bool false, .int .i64 0, .int .i64 0].toArray), by kernel_rfl, by kernel_rfl⟩
  kind := ⟨_, Try.underlying29, by kernel_rfl⟩
  zsc := List.all_eq_true.1 (by kernel_rfl)
  zsz := by kernel_rfl
  cmp := fun _ xs ys w hx hy => by
    refine ⟨Try.eqGuardType29, ?_⟩
    obtain ⟨x0, xr0, rfl, hx_0⟩ := shape_int hx
    obtain ⟨x1, xr1, rfl, hx_1⟩ := shape_int hx_0
    obtain ⟨x2, xr2, rfl, hx_2⟩ := shape_int hx_1
    obtain ⟨x3, xr3, rfl, hx_3⟩ := shape_bool hx_2
    obtain ⟨x4, xr4, rfl, hx_4⟩ := shape_int hx_3
    obtain ⟨x5, xr5, rfl, hx_5⟩ := shape_int hx_4
    obtain rfl := shape_nil hx_5
    obtain ⟨y0, yr0, rfl, hy_0⟩ := shape_int hy
    obtain ⟨y1, yr1, rfl, hy_1⟩ := shape_int hy_0
    obtain ⟨y2, yr2, rfl, hy_2⟩ := shape_int hy_1
    obtain ⟨y3, yr3, rfl, hy_3⟩ := shape_bool hy_2
    obtain ⟨y4, yr4, rfl, hy_4⟩ := shape_int hy_3
    obtain ⟨y5, yr5, rfl, hy_5⟩ := shape_int hy_4
    obtain rfl := shape_nil hy_5
    exact eqt29 9997 w x0 y0 x1 y1 x2 y2 x3 y3 x4 y4 x5 y5

theorem tiok30 : TIok Try.prog 30 { size := 6, bytes := 48, kind := .str [(0, 1), (1, 1), (2, 4)], zero := [.int .i64 0, .int .i64 0, .int .i64 0, .bool false, .int .i64 0, .int .i64 0], cmp := true } where
  info := ⟨Try.t30, by kernel_rfl, by kernel_rfl, by kernel_rfl, (.agg [.int .i64 0, .int .i64 0, .int .i64 0, .bool false, .int .i64 0, .int .i64 0].toArray), by kernel_rfl, by kernel_rfl⟩
  kind := ⟨_, Try.underlying30, by kernel_rfl⟩
  zsc := List.all_eq_true.1 (by kernel_rfl)
  zsz := by kernel_rfl
  cmp := fun _ xs ys w hx hy => by
    refine ⟨Try.eqGuardType30, ?_⟩
    obtain ⟨x0, xr0, rfl, hx_0⟩ := shape_int hx
    obtain ⟨x1, xr1, rfl, hx_1⟩ := shape_int hx_0
    obtain ⟨x2, xr2, rfl, hx_2⟩ := shape_int hx_1
    obtain ⟨x3, xr3, rfl, hx_3⟩ := shape_bool hx_2
    obtain ⟨x4, xr4, rfl, hx_4⟩ := shape_int hx_3
    obtain ⟨x5, xr5, rfl, hx_5⟩ := shape_int hx_4
    obtain rfl := shape_nil hx_5
    obtain ⟨y0, yr0, rfl, hy_0⟩ := shape_int hy
    obtain ⟨y1, yr1, rfl, hy_1⟩ := shape_int hy_0
    obtain ⟨y2, yr2, rfl, hy_2⟩ := shape_int hy_1
    obtain ⟨y3, yr3, rfl, hy_3⟩ := shape_bool hy_2
    obtain ⟨y4, yr4, rfl, hy_4⟩ := shape_int hy_3
    obtain ⟨y5, yr5, rfl, hy_5⟩ := shape_int hy_4
    obtain rfl := shape_nil hy_5
    exact eqt30 9997 w x0 y0 x1 y1 x2 y2 x3 y3 x4 y4 x5 y5

theorem tiok33 : TIok Try.prog 33 { size := 9, bytes := 72, kind := .str [(0, 1), (1, 1), (2, 1), (3, 1), (4, 1), (5, 1), (6, 1), (7, 1), (8, 1)], zero := [.int .i64 0, .int .i64 0, .int .i64 0, .int .i64 0, .int .i64 0, .int .i64 0, .int .i64 0, .int .i64 0, .int .i64 0], cmp := true } where
  info := ⟨Try.t33, by kernel_rfl, by kernel_rfl, by kernel_rfl, (.agg [.int .i64 0, .int .i64 0, .int .i64 0, .int .i64 0, .int .i64 0, .int .i64 0, .int .i64 0, .int .i64 0, .int .i64 0].toArray), by kernel_rfl, by kernel_rfl⟩
  kind := ⟨_, Try.underlying33, by kernel_rfl⟩
  zsc := List.all_eq_true.1 (by kernel_rfl)
  zsz := by kernel_rfl
  cmp := fun _ xs ys w hx hy => by
    refine ⟨Try.eqGuardType33, ?_⟩
    obtain ⟨x0, xr0, rfl, hx_0⟩ := shape_int hx
    obtain ⟨x1, xr1, rfl, hx_1⟩ := shape_int hx_0
    obtain ⟨x2, xr2, rfl, hx_2⟩ := shape_int hx_1
    obtain ⟨x3, xr3, rfl, hx_3⟩ := shape_int hx_2
    obtain ⟨x4, xr4, rfl, hx_4⟩ := shape_int hx_3
    obtain ⟨x5, xr5, rfl, hx_5⟩ := shape_int hx_4
    obtain ⟨x6, xr6, rfl, hx_6⟩ := shape_int hx_5
    obtain ⟨x7, xr7, rfl, hx_7⟩ := shape_int hx_6
    obtain ⟨x8, xr8, rfl, hx_8⟩ := shape_int hx_7
    obtain rfl := shape_nil hx_8
    obtain ⟨y0, yr0, rfl, hy_0⟩ := shape_int hy
    obtain ⟨y1, yr1, rfl, hy_1⟩ := shape_int hy_0
    obtain ⟨y2, yr2, rfl, hy_2⟩ := shape_int hy_1
    obtain ⟨y3, yr3, rfl, hy_3⟩ := shape_int hy_2
    obtain ⟨y4, yr4, rfl, hy_4⟩ := shape_int hy_3
    obtain ⟨y5, yr5, rfl, hy_5⟩ := shape_int hy_4
    obtain ⟨y6, yr6, rfl, hy_6⟩ := shape_int hy_5
    obtain ⟨y7, yr7, rfl, hy_7⟩ := shape_int hy_6
    obtain ⟨y8, yr8, rfl, hy_8⟩ := shape_int hy_7
    obtain rfl := shape_nil hy_8
    exact eqt33 9998 w x0 y0 x1 y1 x2 y2 x3 y3 x4 y4 x5 y5 x6 y6 x7 y7 x8 y8

theorem tiok34 : TIok Try.prog 34 { size := 9, bytes := 72, kind := .str [(0, 1), (1, 1), (2, 1), (3, 1), (4, 1), (5, 1), (6, 1), (7, 1), (8, 1)], zero := [.int .i64 0, .int .i64 0, .int .i64 0, .int .i64 0, .int .i64 0, .int .i64 0, .int .i64 0, .int .i64 0, .int .i64 0], cmp := true } where
  info := ⟨Try.t34, by kernel_rfl, by kernel_rfl, by kernel_rfl, (.agg [.int .i64 0, .int .i64 0, .int .i64 0, .int .i64 0, .int .i64 0, .int .i64 0, .int .i64 0, .int .i64 0, .int .i64 0].toArray), by kernel_rfl, by kernel_rfl⟩
  kind := ⟨_, Try.underlying34, by kernel_rfl⟩
  zsc := List.all_eq_true.1 (by kernel_rfl)
  zsz := by kernel_rfl
  cmp := fun _ xs ys w hx hy => by
    refine ⟨Try.eqGuardType34, ?_⟩
    obtain ⟨x0, xr0, rfl, hx_0⟩ := shape_int hx
    obtain ⟨x1, xr1, rfl, hx_1⟩ := shape_int hx_0
    obtain ⟨x2, xr2, rfl, hx_2⟩ := shape_int hx_1
    obtain ⟨x3, xr3, rfl, hx_3⟩ := shape_int hx_2
    obtain ⟨x4, xr4, rfl, hx_4⟩ := shape_int hx_3
    obtain ⟨x5, xr5, rfl, hx_5⟩ := shape_int hx_4
    obtain ⟨x6, xr6, rfl, hx_6⟩ := shape_int hx_5
    obtain ⟨x7, xr7, rfl, hx_7⟩ := shape_int hx_6
    obtain ⟨x8, xr8, rfl, hx_8⟩ := shape_int hx_7
    obtain rfl := shape_nil hx_8
    obtain ⟨y0, yr0, rfl, hy_0⟩ := shape_int hy
    obtain ⟨y1, yr1, rfl, hy_1⟩ := shape_int hy_0
    obtain ⟨y2, yr2, rfl, hy_2⟩ := shape_int hy_1
    obtain ⟨y3, yr3, rfl, hy_3⟩ := shape_int hy_2
    obtain ⟨y4, yr4, rfl, hy_4⟩ := shape_int hy_3
    obtain ⟨y5, yr5, rfl, hy_5⟩ := shape_int hy_4
    obtain ⟨y6, yr6, rfl, hy_6⟩ := shape_int hy_5
    obtain ⟨y7, yr7, rfl, hy_7⟩ := shape_int hy_6
    obtain ⟨y8, yr8, rfl, hy_8⟩ := shape_int hy_7
    obtain rfl := shape_nil hy_8
    exact eqt34 9998 w x0 y0 x1 y1 x2 y2 x3 y3 x4 y4 x5 y5 x6 y6 x7 y7 x8 y8

theorem tiok39 : TIok Try.prog 39 { size := 6, bytes := 48, kind := .str [(0, 1), (1, 1), (2, 1), (3, 1), (4, 1), (5, 1)], zero := [.int .i64 0, .int .i64 0, .int .i64 0, .bool false, .int .i64 0, .int .i64 0], cmp := true } where
  info := ⟨Try.t39, by kernel_rfl, by kernel_rfl, by kernel_rfl, (.agg [.int .i64 0, .int .i64 0, .int .i64 0, .bool false, .int .i64 0, .int .i64 0].toArray), by kernel_rfl, by kernel_rfl⟩
  kind := ⟨_, Try.underlying39, by kernel_rfl⟩
  zsc := List.all_eq_true.1 (by kernel_rfl)
  zsz := by kernel_rfl
  cmp := fun _ xs ys w hx hy => by
    refine ⟨Try.eqGuardType39, ?_⟩
    obtain ⟨x0, xr0, rfl, hx_0⟩ := shape_int hx
    obtain ⟨x1, xr1, rfl, hx_1⟩ := shape_int hx_0
    obtain ⟨x2, xr2, rfl, hx_2⟩ := shape_int hx_1
    obtain ⟨x3, xr3, rfl, hx_3⟩ := shape_bool hx_2
    obtain ⟨x4, xr4, rfl, hx_4⟩ := shape_int hx_3
    obtain ⟨x5, xr5, rfl, hx_5⟩ := shape_int hx_4
    obtain rfl := shape_nil hx_5
    obtain ⟨y0, yr0, rfl, hy_0⟩ := shape_int hy
    obtain ⟨y1, yr1, rfl, hy_1⟩ := shape_int hy_0
    obtain ⟨y2, yr2, rfl, hy_2⟩ := shape_int hy_1
    obtain ⟨y3, yr3, rfl, hy_3⟩ := shape_bool hy_2
    obtain ⟨y4, yr4, rfl, hy_4⟩ := shape_int hy_3
    obtain ⟨y5, yr5, rfl, hy_5⟩ := shape_int hy_4
    obtain rfl := shape_nil hy_5
    exact eqt39 9998 w x0 y0 x1 y1 x2 y2 x3 y3 x4 y4 x5 y5

theorem tiok40 : TIok Try.prog 40 { size := 6, bytes := 48, kind := .str [(0, 1), (1, 1), (2, 1), (3, 1), (4, 1), (5, 1)], zero := [.int .i64 0, .int .i64 0, .int .i64 0, .bool false, .int .i64 0, .int .i64 0], cmp := true } where
  info := ⟨Try.t40, by kernel_rfl, by kernel_rfl, by kernel_rfl, (.agg [.int .i64 0, .int .i64 0, .int .i64 0, .bool false, .int .i64 0, .int .i64 0].toArray), by kernel_rfl, by kernel_rfl⟩
  kind := ⟨_, Try.underlying40, by kernel_rfl⟩
  zsc := List.all_eq_true.1 (by kernel_rfl)
  zsz := by kernel_rfl
  cmp := fun _ xs ys w hx hy => by
    refine ⟨Try.eqGuardType40, ?_⟩
    obtain ⟨x0, xr0, rfl, hx_0⟩ := shape_int hx
    obtain ⟨x1, xr1, rfl, hx_1⟩ := shape_int hx_0
    obtain ⟨x2, xr2, rfl, hx_2⟩ := shape_int hx_1
    obtain ⟨x3, xr3, rfl, hx_3⟩ := shape_bool hx_2
    obtain ⟨x4, xr4, rfl, hx_4⟩ := shape_int hx_3
    obtain ⟨x5, xr5, rfl, hx_5⟩ := shape_int hx_4
    obtain rfl := shape_nil hx_5
    obtain ⟨y0, yr0, rfl, hy_0⟩ := shape_int hy
    obtain ⟨y1, yr1, rfl, hy_1⟩ := shape_int hy_0
    obtain ⟨y2, yr2, rfl, hy_2⟩ := shape_int hy_1
    obtain ⟨y3, yr3, rfl, hy_3⟩ := shape_bool hy_2
    obtain ⟨y4, yr4, rfl, hy_4⟩ := shape_int hy_3
    obtain ⟨y5, yr5, rfl, hy_5⟩ := shape_int hy_4
    obtain rfl := shape_nil hy_5
    exact eqt40 9998 w x0 y0 x1 y1 x2 y2 x3 y3 x4 y4 x5 y5

theorem tiok43 : TIok Try.prog 43 { size := 2, bytes := 16, kind := .arr 2 2, zero := [.int .i64 0, .int .i64 0], cmp := false } where
  info := ⟨Try.t43, by kernel_rfl, by kernel_rfl, by kernel_rfl, (.agg [.int .i64 0, .int .i64 0].toArray), by kernel_rfl, by kernel_rfl⟩
  kind := Try.underlying43
  zsc := List.all_eq_true.1 (by kernel_rfl)
  zsz := by kernel_rfl
  cmp := fun h => by cases h

theorem tiok48 : TIok Try.prog 48 { size := 5, bytes := 40, kind := .str [(0, 1), (1, 4)], zero := [.bool false, .int .i64 0, .bool false, .int .i64 0, .int .i64 0], cmp := true } where
  info := ⟨Try.t48, by kernel_rfl, by kernel_rfl, by kernel_rfl, (.agg [.bool false, .int .i64 0, .bool false, .int .i64 0, .int .i64 0].toArray), by kernel_rfl, by kernel_rfl⟩
  kind := ⟨_, Try.underlying48, by kernel_rfl⟩
  zsc := List.all_eq_true.1 (by kernel_rfl)
  zsz := by kernel_rfl
  cmp := fun _ xs ys w hx hy => by
    refine ⟨Try.eqGuardType48, ?_⟩
    obtain ⟨x0, xr0, rfl, hx_0⟩ := shape_bool hx
    obtain ⟨x1, xr1, rfl, hx_1⟩ := shape_int hx_0
    obtain ⟨x2, xr2, rfl, hx_2⟩ := shape_bool hx_1
    obtain ⟨x3, xr3, rfl, hx_3⟩ := shape_int hx_2
    obtain ⟨x4, xr4, rfl, hx_4⟩ := shape_int hx_3
    obtain rfl := shape_nil hx_4
    obtain ⟨y0, yr0, rfl, hy_0⟩ := shape_bool hy
    obtain ⟨y1, yr1, rfl, hy_1⟩ := shape_int hy_0
    obtain ⟨y2, yr2, rfl, hy_2⟩ := shape_bool hy_1
    obtain ⟨y3, yr3, rfl, hy_3⟩ := shape_int hy_2
    obtain ⟨y4, yr4, rfl, hy_4⟩ := shape_int hy_3
    obtain rfl := shape_nil hy_4
    exact eqt48 9997 w x0 y0 x1 y1 x2 y2 x3 y3 x4 y4

theorem tiok49 : TIok Try.prog 49 { size := 5, bytes := 40, kind := .str [(0, 1), (1, 4)], zero := [.bool false, .int .i64 0, .bool false, .int .i64 0, .int .i64 0], cmp := true } where
  info := ⟨Try.t49, by kernel_rfl, by kernel_rfl, by kernel_rfl, (.agg [.bool false, .int .i64 0, .bool false, .int .i64 0, .int .i64 0].toArray), by kernel_rfl, by kernel_rfl⟩
  kind := ⟨_, Try.underlying49, by kernel_rfl⟩
  zsc := List.all_eq_true.1 (by kernel_rfl)
  zsz := by kernel_rfl
  cmp := fun _ xs ys w hx hy => by
    refine ⟨Try.eqGuardType49, ?_⟩
    obtain ⟨x0, xr0, rfl, hx_0⟩ := shape_bool hx
    obtain ⟨x1, xr1, rfl, hx_1⟩ := shape_int hx_0
    obtain ⟨x2, xr2, rfl, hx_2⟩ := shape_bool hx_1
    obtain ⟨x3, xr3, rfl, hx_3⟩ := shape_int hx_2
    obtain ⟨x4, xr4, rfl, hx_4⟩ := shape_int hx_3
    obtain rfl := shape_nil hx_4
    obtain ⟨y0, yr0, rfl, hy_0⟩ := shape_bool hy
    obtain ⟨y1, yr1, rfl, hy_1⟩ := shape_int hy_0
    obtain ⟨y2, yr2, rfl, hy_2⟩ := shape_bool hy_1
    obtain ⟨y3, yr3, rfl, hy_3⟩ := shape_int hy_2
    obtain ⟨y4, yr4, rfl, hy_4⟩ := shape_int hy_3
    obtain rfl := shape_nil hy_4
    exact eqt49 9997 w x0 y0 x1 y1 x2 y2 x3 y3 x4 y4

theorem tiok50 : TIok Try.prog 50 { size := 2560, bytes := 20480, kind := .arr 512 49, zero := bigz0, cmp := false } where
  info := ⟨Try.t50, by kernel_rfl, by kernel_rfl, by kernel_rfl, (.agg bigz0.toArray), by kernel_rfl, by kernel_rfl⟩
  kind := Try.underlying50
  zsc := List.all_eq_true.1 (by kernel_rfl)
  zsz := by kernel_rfl
  cmp := fun h => by cases h

theorem tiok51 : TIok Try.prog 51 { size := 2560, bytes := 20480, kind := .arr 512 49, zero := bigz0, cmp := false } where
  info := ⟨Try.t51, by kernel_rfl, by kernel_rfl, by kernel_rfl, (.agg bigz0.toArray), by kernel_rfl, by kernel_rfl⟩
  kind := Try.underlying51
  zsc := List.all_eq_true.1 (by kernel_rfl)
  zsz := by kernel_rfl
  cmp := fun h => by cases h

theorem tiok90 : TIok Try.prog 90 { size := 1, bytes := 24, kind := .sli 93, zero := [.slice none 0 0], cmp := false } where
  info := ⟨Try.t90, by kernel_rfl, by kernel_rfl, by kernel_rfl, (.slice none 0 0), by kernel_rfl, by kernel_rfl⟩
  kind := Try.underlying90
  zsc := List.all_eq_true.1 (by kernel_rfl)
  zsz := by kernel_rfl
  cmp := fun h => by cases h

theorem tiok92 : TIok Try.prog 92 { size := 2, bytes := 16, kind := .str [(0, 1), (1, 1)], zero := [.int .i64 0, .int .i64 0], cmp := true } where
  info := ⟨Try.t92, by kernel_rfl, by kernel_rfl, by kernel_rfl, (.agg [.int .i64 0, .int .i64 0].toArray), by kernel_rfl, by kernel_rfl⟩
  kind := ⟨_, Try.underlying92, by kernel_rfl⟩
  zsc := List.all_eq_true.1 (by kernel_rfl)
  zsz := by kernel_rfl
  cmp := fun _ xs ys w hx hy => by
    refine ⟨Try.eqGuardType92, ?_⟩
    obtain ⟨x0, xr0, rfl, hx_0⟩ := shape_int hx
    obtain ⟨x1, xr1, rfl, hx_1⟩ := shape_int hx_0
    obtain rfl := shape_nil hx_1
    obtain ⟨y0, yr0, rfl, hy_0⟩ := shape_int hy
    obtain ⟨y1, yr1, rfl, hy_1⟩ := shape_int hy_0
    obtain rfl := shape_nil hy_1
    exact eqt92 9998 w x0 y0 x1 y1

theorem tiok93 : TIok Try.prog 93 { size := 2, bytes := 16, kind := .str [(0, 1), (1, 1)], zero := [.int .i64 0, .int .i64 0], cmp := true } where
  info := ⟨Try.t93, by kernel_rfl, by kernel_rfl, by kernel_rfl, (.agg [.int .i64 0, .int .i64 0].toArray), by kernel_rfl, by kernel_rfl⟩
  kind := ⟨_, Try.underlying93, by kernel_rfl⟩
  zsc := List.all_eq_true.1 (by kernel_rfl)
  zsz := by kernel_rfl
  cmp := fun _ xs ys w hx hy => by
    refine ⟨Try.eqGuardType93, ?_⟩
    obtain ⟨x0, xr0, rfl, hx_0⟩ := shape_int hx
    obtain ⟨x1, xr1, rfl, hx_1⟩ := shape_int hx_0
    obtain rfl := shape_nil hx_1
    obtain ⟨y0, yr0, rfl, hy_0⟩ := shape_int hy
    obtain ⟨y1, yr1, rfl, hy_1⟩ := shape_int hy_0
    obtain rfl := shape_nil hy_1
    exact eqt93 9998 w x0 y0 x1 y1

theorem tiok102 : TIok Try.prog 102 { size := 1, bytes := 24, kind := .sli 22, zero := [.slice none 0 0], cmp := false } where
  info := ⟨Try.t102, by kernel_rfl, by kernel_rfl, by kernel_rfl, (.slice none 0 0), by kernel_rfl, by kernel_rfl⟩
  kind := Try.underlying102
  zsc := List.all_eq_true.1 (by kernel_rfl)
  zsz := by kernel_rfl
  cmp := fun h => by cases h

theorem tiok108 : TIok Try.prog 108 { size := 0, bytes := 0, kind := .arr 0 16, zero := [], cmp := false } where
  info := ⟨Try.t108, by kernel_rfl, by kernel_rfl, by kernel_rfl, (.agg [].toArray), by kernel_rfl, by kernel_rfl⟩
  kind := Try.underlying108
  zsc := List.all_eq_true.1 (by kernel_rfl)
  zsz := by kernel_rfl
  cmp := fun h => by cases h

theorem te_ok : TEok Try.prog te := by
  intro t ti h
  unfold te at h
  split at h
  · injection h with h; subst h; exact tiok2
  · injection h with h; subst h; exact tiok3
  · injection h with h; subst h; exact tiok4
  · injection h with h; subst h; exact tiok5
  · injection h with h; subst h; exact tiok22
  · injection h with h; subst h; exact tiok23
  · injection h with h; subst h; exact tiok26
  · injection h with h; subst h; exact tiok27
  · injection h with h; subst h; exact tiok28
  · injection h with h; subst h; exact tiok29
  · injection h with h; subst h; exact tiok30
  · injection h with h; subst h; exact tiok33
  · injection h with h; subst h; exact tiok34
  · injection h with h; subst h; exact tiok39
  · injection h with h; subst h; exact tiok40
  · injection h with h; subst h; exact tiok43
  · injection h with h; subst h; exact tiok48
  · injection h with h; subst h; exact tiok49
  · injection h with h; subst h; exact tiok50
  · injection h with h; subst h; exact tiok51
  · injection h with h; subst h; exact tiok90
  · injection h with h; subst h; exact tiok92
  · injection h with h; subst h; exact tiok93
  · injection h with h; subst h; exact tiok102
  · injection h with h; subst h; exact tiok108
  · cases h

end Go.Abs
/-
  Areas: each function of the layer 'area', as a plain one.
-/
namespace Go.Abs
set_option linter.unusedVariables false
set_option linter.unusedSimpArgs false
open Go.Proofs
set_option maxHeartbeats 4000000

theorem mix : Try.prog.follows .mixedOrders = true := by kernel_rfl

theorem whole_c (n : Int) (H : Heap) : ACalls Try.prog 87 [.s (I n)] H (.s (Bo (n.tmod 4096 == 0))) H := by
  refine acalls_pure te_ok mix Try.func87 rfl Try.call87 (by kernel_rfl) (by kernel_rfl) rfl rfl ?_; simp only [Try.results87]
  repeat' (first | refine st ?_ | refine pblock_en rfl ?_ | (refine ss ?_; intro K_ hK_) | refine vops_gf rfl ?_ | refine vops_gt rfl ?_ | (refine sk ?_; intro k_ hk_; simp only [go_sem, simprocAttr]; (with_reducible first | refine hk_ _ _ ?_ | refine hk_ _ ?_); clear hk_ k_) | ((first | refine sg ?_ | refine sc ?_); intro x_ y_ hx_ hy_; simp only [go_sem, simprocAttr]; ((first | (with_reducible first | refine hx_ ?_ | refine hy_ ?_) | (with_reducible first | refine bI_split (fun h_ => hx_ ?_) (fun h_ => hy_ ?_) | refine bI_split (fun h_ => hy_ ?_) (fun h_ => hx_ ?_)) <;> try rw [h_]) <;> clear hx_ hy_ x_ y_)) | ((with_reducible first | refine hK_ _ _ ?_ | refine hK_ _ _ _ _ (Weak.refl _ _) ?_); clear hK_ K_) | clear hK_ K_)
  exact ⟨rfl, HExt.refl _⟩

theorem off_c (a : Ar) (n : Int) (H : Heap) : ACalls Try.prog 69 [.agg a.c, .s (I n)] H (.s (I (aoff a n))) H := by
  refine acalls_pure te_ok mix Try.func69 rfl Try.call69 (by kernel_rfl) (by kernel_rfl) rfl rfl ?_; simp only [Try.results69]
  repeat' (first | refine st ?_ | refine pblock_en rfl ?_ | (refine ss ?_; intro K_ hK_) | refine vops_gf rfl ?_ | refine vops_gt rfl ?_ | (refine sk ?_; intro k_ hk_; simp only [go_sem, simprocAttr]; (with_reducible first | refine hk_ _ _ ?_ | refine hk_ _ ?_); clear hk_ k_) | ((first | refine sg ?_ | refine sc ?_); intro x_ y_ hx_ hy_; simp only [go_sem, simprocAttr]; ((first | (with_reducible first | refine hx_ ?_ | refine hy_ ?_) | (with_reducible first | refine bI_split (fun h_ => hx_ ?_) (fun h_ => hy_ ?_) | refine bI_split (fun h_ => hy_ ?_) (fun h_ => hx_ ?_)) <;> try rw [h_]) <;> clear hx_ hy_ x_ y_)) | ((with_reducible first | refine hK_ _ _ ?_ | refine hK_ _ _ _ _ (Weak.refl _ _) ?_); clear hK_ K_) | clear hK_ K_)
  all_goals refine ⟨?_, hxt⟩
  all_goals simp_all [I, aoff]


theorem formed_c (a : Ar) (H : Heap) : ACalls Try.prog 73 [.agg a.c] H (.s (Bo (formed a))) H := by
  refine acalls_pure te_ok mix Try.func73 rfl Try.call73 (by kernel_rfl) (by kernel_rfl) rfl rfl ?_; simp only [Try.results73]
  repeat' (first | refine st ?_ | refine pblock_en rfl ?_ | (refine ss ?_; intro K_ hK_) | refine vops_gf rfl ?_ | refine vops_gt rfl ?_ | (refine sk ?_; intro k_ hk_; simp only [go_sem, simprocAttr]; (with_reducible first | refine hk_ _ _ ?_ | refine hk_ _ ?_); clear hk_ k_) | ((first | refine sg ?_ | refine sc ?_); intro x_ y_ hx_ hy_; simp only [go_sem, simprocAttr]; ((first | (with_reducible first | refine hx_ ?_ | refine hy_ ?_) | (with_reducible first | refine bI_split (fun h_ => hx_ ?_) (fun h_ => hy_ ?_) | refine bI_split (fun h_ => hy_ ?_) (fun h_ => hx_ ?_)) <;> try rw [h_]) <;> clear hx_ hy_ x_ y_)) | (with_reducible first | refine callv_pure (whole_c _ _) ?_) | ((with_reducible first | refine hK_ _ _ ?_ | refine hK_ _ _ _ _ (Weak.refl _ _) ?_); clear hK_ K_) | clear hK_ K_)
  all_goals refine ⟨?_, hxt⟩
  all_goals simp only [AV.s.injEq, SV.raw.injEq, Value.bool.injEq]
  all_goals unfold formed
  all_goals simp_all
  all_goals first | omega | rfl | grind

theorem has_c (a : Ar) (n : Int) (H : Heap) : ACalls Try.prog 68 [.agg a.c, .s (I n)] H (.s (Bo (has a n))) H := by
  refine acalls_pure te_ok mix Try.func68 rfl Try.call68 (by kernel_rfl) (by kernel_rfl) rfl rfl ?_; simp only [Try.results68]
  repeat' (first | refine st ?_ | refine pblock_en rfl ?_ | (refine ss ?_; intro K_ hK_) | refine vops_gf rfl ?_ | refine vops_gt rfl ?_ | (refine sk ?_; intro k_ hk_; simp only [go_sem, simprocAttr]; (with_reducible first | refine hk_ _ _ ?_ | refine hk_ _ ?_); clear hk_ k_) | ((first | refine sg ?_ | refine sc ?_); intro x_ y_ hx_ hy_; simp only [go_sem, simprocAttr]; ((first | (with_reducible first | refine hx_ ?_ | refine hy_ ?_) | (with_reducible first | refine bI_split (fun h_ => hx_ ?_) (fun h_ => hy_ ?_) | refine bI_split (fun h_ => hy_ ?_) (fun h_ => hx_ ?_)) <;> try rw [h_]) <;> clear hx_ hy_ x_ y_)) | (with_reducible first | refine callv_pure (formed_c _ _) ?_) | ((with_reducible first | refine hK_ _ _ ?_ | refine hK_ _ _ _ _ (Weak.refl _ _) ?_); clear hK_ K_) | clear hK_ K_)
  all_goals refine ⟨?_, hxt⟩
  all_goals simp_all [has]
  all_goals omega

end Go.Abs
/-
  Areas: the other functions of the layer 'area', as plain ones.
-/
namespace Go.Abs
set_option linter.unusedVariables false
set_option linter.unusedSimpArgs false
open Go.Proofs
set_option maxHeartbeats 4000000


theorem floor_c (n : Int) (H : Heap) : ACalls Try.prog 91 [.s (I n)] H (.s (I (afloor n))) H := by
  refine acalls_pure te_ok mix Try.func91 rfl Try.call91 (by kernel_rfl) (by kernel_rfl) rfl rfl ?_; simp only [Try.results91]
  repeat' (first | refine st ?_ | refine pblock_en rfl ?_ | (refine ss ?_; intro K_ hK_) | refine vops_gf rfl ?_ | refine vops_gt rfl ?_ | (refine sk ?_; intro k_ hk_; simp only [go_sem, simprocAttr]; (with_reducible first | refine hk_ _ _ ?_ | refine hk_ _ ?_); clear hk_ k_) | ((first | refine sg ?_ | refine sc ?_); intro x_ y_ hx_ hy_; simp only [go_sem, simprocAttr]; ((first | (with_reducible first | refine hx_ ?_ | refine hy_ ?_) | (with_reducible first | refine bI_split (fun h_ => hx_ ?_) (fun h_ => hy_ ?_) | refine bI_split (fun h_ => hy_ ?_) (fun h_ => hx_ ?_)) <;> try rw [h_]) <;> clear hx_ hy_ x_ y_)) | ((with_reducible first | refine hK_ _ _ ?_ | refine hK_ _ _ _ _ (Weak.refl _ _) ?_); clear hK_ K_) | clear hK_ K_)
  exact ⟨rfl, HExt.refl _⟩

theorem ceil_c (n : Int) (H : Heap) : ACalls Try.prog 92 [.s (I n)] H (.s (I (aceil n))) H := by
  refine acalls_pure te_ok mix Try.func92 rfl Try.call92 (by kernel_rfl) (by kernel_rfl) rfl rfl ?_; simp only [Try.results92]
  repeat' (first | refine st ?_ | refine pblock_en rfl ?_ | (refine ss ?_; intro K_ hK_) | refine vops_gf rfl ?_ | refine vops_gt rfl ?_ | (refine sk ?_; intro k_ hk_; simp only [go_sem, simprocAttr]; (with_reducible first | refine hk_ _ _ ?_ | refine hk_ _ ?_); clear hk_ k_) | ((first | refine sg ?_ | refine sc ?_); intro x_ y_ hx_ hy_; simp only [go_sem, simprocAttr]; ((first | (with_reducible first | refine hx_ ?_ | refine hy_ ?_) | (with_reducible first | refine bI_split (fun h_ => hx_ ?_) (fun h_ => hy_ ?_) | refine bI_split (fun h_ => hy_ ?_) (fun h_ => hx_ ?_)) <;> try rw [h_]) <;> clear hx_ hy_ x_ y_)) | (with_reducible first | refine callv_pure (floor_c _ _) ?_) | ((with_reducible first | refine hK_ _ _ ?_ | refine hK_ _ _ _ _ (Weak.refl _ _) ?_); clear hK_ K_) | clear hK_ K_)
  all_goals refine ⟨?_, hxt⟩
  all_goals simp_all [aceil]
  all_goals omega

theorem attr_c (a : Ar) (n : Int) (H : Heap) : ACalls Try.prog 35 [.agg a.c, .s (I n)] H (.tup [.agg (atr a n).c, .s (Bo (has a n))]) H := by
  refine acalls_pure te_ok mix Try.func35 rfl Try.call35 (by kernel_rfl) (by kernel_rfl) rfl rfl ?_; simp only [Try.results35]
  repeat' (first | refine st ?_ | refine pblock_en rfl ?_ | (refine ss ?_; intro K_ hK_) | refine vc_draw' (by kernel_rfl) fun K_ hK_ => ?_ | refine vops_gf rfl ?_ | refine vops_gt rfl ?_ | refine vd_gf rfl ?_ | refine vd_gt rfl ?_ | (refine sk ?_; intro k_ hk_; simp only [go_sem, simprocAttr]; (with_reducible first | refine hk_ _ _ ?_ | refine hk_ _ ?_ | refine hk_ _ _ (by (first | exact HExtR.refl _ | (refine HExtR.push ?_; first | rfl | simp only [go_sem]))) ?_); clear hk_ k_) | ((first | refine sg ?_ | refine sc ?_); intro x_ y_ hx_ hy_; simp only [go_sem, simprocAttr]; ((first | (with_reducible first | refine hx_ ?_ | refine hy_ ?_) | (with_reducible first | refine bI_split (fun h_ => hx_ ?_) (fun h_ => hy_ ?_) | refine bI_split (fun h_ => hy_ ?_) (fun h_ => hx_ ?_)) <;> try rw [h_]) <;> clear hx_ hy_ x_ y_)) | (with_reducible first | refine callv_pure (has_c _ _ _) ?_ | refine callv_pure (off_c _ _ _) ?_ | refine vcalld_pure (has_c _ _ _) ?_ | refine vcalld_pure (off_c _ _ _) ?_) | ((with_reducible first | refine hK_ _ _ ?_ | refine hK_ _ _ _ _ (Weak.refl _ _) ?_); clear hK_ K_) | clear hK_ K_)
  all_goals refine ⟨?_, hxt⟩
  all_goals simp_all [atr]


theorem goes_c (a b : Ar) (H : Heap) : ACalls Try.prog 83 [.agg a.c, .agg b.c] H (.s (Bo (goes a b))) H := by
  refine acalls_pure te_ok mix Try.func83 rfl Try.call83 (by kernel_rfl) (by kernel_rfl) rfl rfl ?_; simp only [Try.results83]
  repeat' (first | refine st ?_ | refine pblock_en rfl ?_ | (refine ss ?_; intro K_ hK_) | refine vc_draw' (by kernel_rfl) fun K_ hK_ => ?_ | refine vops_gf rfl ?_ | refine vops_gt rfl ?_ | refine vd_gf rfl ?_ | refine vd_gt rfl ?_ | (refine sk ?_; intro k_ hk_; simp only [go_sem, simprocAttr]; (with_reducible first | refine hk_ _ _ ?_ | refine hk_ _ ?_ | refine hk_ _ _ (by (first | exact HExtR.refl _ | (refine HExtR.push ?_; first | rfl | simp only [go_sem]))) ?_); clear hk_ k_) | ((first | refine sg ?_ | refine sc ?_); intro x_ y_ hx_ hy_; simp only [go_sem, simprocAttr]; ((first | (with_reducible first | refine hx_ ?_ | refine hy_ ?_) | (with_reducible first | refine bI_split (fun h_ => hx_ ?_) (fun h_ => hy_ ?_) | refine bI_split (fun h_ => hy_ ?_) (fun h_ => hx_ ?_)) <;> try rw [h_]) <;> clear hx_ hy_ x_ y_)) | (with_reducible first | refine callv_pure (formed_c _ _) ?_ | refine callv_pure (off_c _ _ _) ?_ | refine vcalld_pure (formed_c _ _) ?_ | refine vcalld_pure (off_c _ _ _) ?_) | ((with_reducible first | refine hK_ _ _ ?_ | refine hK_ _ _ _ _ (Weak.refl _ _) ?_); clear hK_ K_) | clear hK_ K_)
  all_goals refine ⟨?_, hxt⟩
  all_goals simp_all [goes]

theorem join_c (a b : Ar) (H : Heap) : ACalls Try.prog 85 [.agg a.c, .agg b.c] H (.tup [.agg ((ajoin a b).getD Ar.zero).c, .s (Bo (ajoin a b).isSome)]) H := by
  refine acalls_pure te_ok mix Try.func85 rfl Try.call85 (by kernel_rfl) (by kernel_rfl) rfl rfl ?_; simp only [Try.results85]
  repeat' (first | refine st ?_ | refine pblock_en rfl ?_ | (refine ss ?_; intro K_ hK_) | refine vops_gf rfl ?_ | refine vops_gt rfl ?_ | (refine sk ?_; intro k_ hk_; simp only [go_sem, simprocAttr]; (with_reducible first | refine hk_ _ _ ?_ | refine hk_ _ ?_); clear hk_ k_) | ((first | refine sg ?_ | refine sc ?_); intro x_ y_ hx_ hy_; simp only [go_sem, simprocAttr]; ((first | (with_reducible first | refine hx_ ?_ | refine hy_ ?_) | (with_reducible first | refine bI_split (fun h_ => hx_ ?_) (fun h_ => hy_ ?_) | refine bI_split (fun h_ => hy_ ?_) (fun h_ => hx_ ?_)) <;> try rw [h_]) <;> clear hx_ hy_ x_ y_)) | (with_reducible first | refine callv_pure (goes_c _ _ _) ?_ | refine callv_pure (formed_c _ _) ?_) | ((with_reducible first | refine hK_ _ _ ?_ | refine hK_ _ _ _ _ (Weak.refl _ _) ?_); clear hK_ K_) | clear hK_ K_)
  all_goals refine ⟨?_, hxt⟩
  all_goals simp_all [ajoin, Ar.zero]

theorem part_c (a : Ar) (lo hi : Int) (H : Heap) : ACalls Try.prog 84 [.agg a.c, .s (I lo), .s (I hi)] H (.tup [.agg ((apart a lo hi).getD Ar.zero).c, .s (Bo (apart a lo hi).isSome)]) H := by
  refine acalls_pure te_ok mix Try.func84 rfl Try.call84 (by kernel_rfl) (by kernel_rfl) rfl rfl ?_; simp only [Try.results84]
  repeat' (first | refine st ?_ | refine pblock_en rfl ?_ | (refine ss ?_; intro K_ hK_) | refine vc_draw' (by kernel_rfl) fun K_ hK_ => ?_ | refine vops_gf rfl ?_ | refine vops_gt rfl ?_ | refine vd_gf rfl ?_ | refine vd_gt rfl ?_ | (refine sk ?_; intro k_ hk_; simp only [go_sem, simprocAttr]; (with_reducible first | refine hk_ _ _ ?_ | refine hk_ _ ?_ | refine hk_ _ _ (by (first | exact HExtR.refl _ | (refine HExtR.push ?_; first | rfl | simp only [go_sem]))) ?_); clear hk_ k_) | ((first | refine sg ?_ | refine sc ?_); intro x_ y_ hx_ hy_; simp only [go_sem, simprocAttr]; ((first | (with_reducible first | refine hx_ ?_ | refine hy_ ?_) | (with_reducible first | refine bI_split (fun h_ => hx_ ?_) (fun h_ => hy_ ?_) | refine bI_split (fun h_ => hy_ ?_) (fun h_ => hx_ ?_)) <;> try rw [h_]) <;> clear hx_ hy_ x_ y_)) | (with_reducible first | refine callv_pure (formed_c _ _) ?_ | refine callv_pure (off_c _ _ _) ?_ | refine callv_pure (floor_c _ _) ?_ | refine callv_pure (ceil_c _ _) ?_ | refine vcalld_pure (formed_c _ _) ?_ | refine vcalld_pure (off_c _ _ _) ?_ | refine vcalld_pure (floor_c _ _) ?_ | refine vcalld_pure (ceil_c _ _) ?_) | ((with_reducible first | refine hK_ _ _ ?_ | refine hK_ _ _ _ _ (Weak.refl _ _) ?_); clear hK_ K_) | clear hK_ K_)
  all_goals refine ⟨?_, hxt⟩
  all_goals simp_all [apart, Ar.zero]
  all_goals
    have e1 : ¬ ((hi ≤ a.s ∨ a.e ≤ lo) ∨ hi ≤ lo) := by omega
    have e2 : ¬ imin a.e (aceil hi) ≤ imax a.s (afloor (imax lo 0)) := by omega
    simp [e1, e2]

theorem may_c (a : Ar) (k : Int) (H : Heap) : ACalls Try.prog 34 [.agg a.c, .s (I k)] H (.s (Bo (may a k))) H := by
  refine acalls_pure te_ok mix Try.func34 rfl Try.call34 (by kernel_rfl) (by kernel_rfl) rfl rfl ?_; simp only [Try.results34]
  repeat' (first | refine st ?_ | refine pblock_en rfl ?_ | (refine ss ?_; intro K_ hK_) | refine vops_gf rfl ?_ | refine vops_gt rfl ?_ | (refine sk ?_; intro k_ hk_; simp only [go_sem, simprocAttr]; (with_reducible first | refine hk_ _ _ ?_ | refine hk_ _ ?_); clear hk_ k_) | ((first | refine sg ?_ | refine sc ?_); intro x_ y_ hx_ hy_; simp only [go_sem, simprocAttr]; ((first | (with_reducible first | refine hx_ ?_ | refine hy_ ?_) | (with_reducible first | refine bI_split (fun h_ => hx_ ?_) (fun h_ => hy_ ?_) | refine bI_split (fun h_ => hy_ ?_) (fun h_ => hx_ ?_)) <;> try rw [h_]) <;> clear hx_ hy_ x_ y_)) | (with_reducible first | refine callv_pure (formed_c _ _) ?_) | ((with_reducible first | refine hK_ _ _ ?_ | refine hK_ _ _ _ _ (Weak.refl _ _) ?_); clear hK_ K_) | clear hK_ K_)
  all_goals refine ⟨?_, hxt⟩
  all_goals (unfold may; simp only [AV.s.injEq, SV.raw.injEq, Value.bool.injEq]; simp only [*, Bool.true_and, Bool.false_and, Bool.and_false]; try rfl)
end Go.Abs
/-
  list.Right, list.floor.
-/
namespace Go.Abs
set_option linter.unusedVariables false
set_option linter.unusedSimpArgs false
open Go.Proofs
set_option maxHeartbeats 4000000
theorem lfloor_c (n : Int) (H : Heap) : ACalls Try.prog 82 [.s (I n)] H (.s (I (afloor n))) H := by
  refine acalls_pure te_ok mix Try.func82 rfl Try.call82 (by kernel_rfl) (by kernel_rfl) rfl rfl ?_; simp only [Try.results82]
  repeat' (first | refine st ?_ | refine pblock_en rfl ?_ | (refine ss ?_; intro K_ hK_) | refine vops_gf rfl ?_ | refine vops_gt rfl ?_ | (refine sk ?_; intro k_ hk_; simp only [go_sem, simprocAttr]; (with_reducible first | refine hk_ _ _ ?_ | refine hk_ _ ?_); clear hk_ k_) | ((first | refine sg ?_ | refine sc ?_); intro x_ y_ hx_ hy_; simp only [go_sem, simprocAttr]; ((first | (with_reducible first | refine hx_ ?_ | refine hy_ ?_) | (with_reducible first | refine bI_split (fun h_ => hx_ ?_) (fun h_ => hy_ ?_) | refine bI_split (fun h_ => hy_ ?_) (fun h_ => hx_ ?_)) <;> try rw [h_]) <;> clear hx_ hy_ x_ y_)) | ((with_reducible first | refine hK_ _ _ ?_ | refine hK_ _ _ _ _ (Weak.refl _ _) ?_); clear hK_ K_) | clear hK_ K_)
  exact ⟨rfl, HExt.refl _⟩
theorem right_c (l : List Ar) (hl : l.length < 1000000) (H : Heap) : ACalls Try.prog 61 [.s (LV Ar.c l)] H (.s (Bo (right l))) H := by
  refine acalls_pure te_ok mix Try.func61 rfl Try.call61 (by kernel_rfl) (by kernel_rfl) rfl rfl ?_; simp only [Try.results61]
  repeat' (first | refine st ?_ | refine pblock_en rfl ?_ | (refine ss ?_; intro K_ hK_) | refine vc_draw' (by kernel_rfl) fun K_ hK_ => ?_ | refine vops_gf rfl ?_ | refine vops_gt rfl ?_ | refine vd_gf rfl ?_ | refine vd_gt rfl ?_ | (refine sk ?_; intro k_ hk_; simp only [go_sem, simprocAttr]; (with_reducible first | refine hk_ _ _ ?_ | refine hk_ _ ?_ | refine hk_ _ _ (by (first | exact HExtR.refl _ | (refine HExtR.push ?_; first | rfl | simp only [go_sem]))) ?_); clear hk_ k_) | ((first | refine sg ?_ | refine sc ?_); intro x_ y_ hx_ hy_; simp only [go_sem, simprocAttr]; ((first | (with_reducible first | refine hx_ ?_ | refine hy_ ?_) | (with_reducible first | refine bI_split (fun h_ => hx_ ?_) (fun h_ => hy_ ?_) | refine bI_split (fun h_ => hy_ ?_) (fun h_ => hx_ ?_)) <;> try rw [h_]) <;> clear hx_ hy_ x_ y_)) | ((with_reducible first | refine hK_ _ _ ?_ | refine hK_ _ _ _ _ (Weak.refl _ _) ?_); clear hK_ K_) | clear hK_ K_)
  refine vc_range l.length (fun i σ' H' => σ' 0 = .s (LV Ar.c l) ∧ σ' 5 = .s (LV Ar.c l) ∧ σ' 6 = .s (I l.length) ∧ σ' 7 = .s (I i) ∧ HExt H H' ∧ right l = rightFrom (prevAt l i) (l.drop i)) ⟨rfl, rfl, rfl, rfl, HExt.refl _, rfl⟩ ?_
  rintro i σ' H' hi ⟨h0, h5, h6, h7, hx', hr⟩
  have hn' := hx'.1
  by_cases hil : i < l.length
  · have ha : l[i]? = some l[i] := List.getElem?_eq_getElem hil
    generalize l[i] = a at ha
    have g1 := FL_at ar_len ha
    rw [drop_at ha] at hr
    by_cases hi0 : 0 < i
    · have hp : l[i - 1]? = some l[i - 1] := List.getElem?_eq_getElem (by omega)
      generalize l[i - 1] = p at hp
      have e1 := FL_at ar_len hp
      have hpr : prevAt l i = some p := by cases i with
        | zero => omega
        | succ i => exact hp
      rw [hpr] at hr
      repeat' (first | refine st ?_ | refine pblock_en rfl ?_ | (refine ss ?_; intro K_ hK_) | refine vc_draw' (by kernel_rfl) fun K_ hK_ => ?_ | refine vops_gf rfl ?_ | refine vops_gt rfl ?_ | refine vd_gf rfl ?_ | refine vd_gt rfl ?_ | (refine sk ?_; intro k_ hk_; simp only [go_sem, simprocAttr, h0, h5, h6, h7, ilt hil, ipos hi0, g1, e1, wrap_pred (n := i) (by omega) hi0, ilt (i := i - 1) (n := l.length) (by omega), wrap_succ (n := i) (by omega)]; (with_reducible first | refine hk_ _ _ ?_ | refine hk_ _ ?_ | refine hk_ _ _ (by (first | exact HExtR.refl _ | (refine HExtR.push ?_; first | rfl | simp only [go_sem, h0, h5, h6, h7, ilt hil, ipos hi0, g1, e1, wrap_pred (n := i) (by omega) hi0, ilt (i := i - 1) (n := l.length) (by omega), wrap_succ (n := i) (by omega)]))) ?_); clear hk_ k_) | ((first | refine sg ?_ | refine sc ?_); intro x_ y_ hx_ hy_; simp only [go_sem, simprocAttr, h0, h5, h6, h7, ilt hil, ipos hi0, g1, e1, wrap_pred (n := i) (by omega) hi0, ilt (i := i - 1) (n := l.length) (by omega), wrap_succ (n := i) (by omega)]; ((first | (with_reducible first | refine hx_ ?_ | refine hy_ ?_) | (with_reducible first | refine bI_split (fun h_ => hx_ ?_) (fun h_ => hy_ ?_) | refine bI_split (fun h_ => hy_ ?_) (fun h_ => hx_ ?_)) <;> try rw [h_]) <;> clear hx_ hy_ x_ y_)) | (with_reducible first | refine callv_pure (formed_c _ _) ?_ | refine callv_pure (goes_c _ _ _) ?_ | refine vcalld_pure (formed_c _ _) ?_ | refine vcalld_pure (goes_c _ _ _) ?_) | ((with_reducible first | refine hK_ _ _ ?_ | refine hK_ _ _ _ _ (Weak.refl _ _) ?_); clear hK_ K_) | clear hK_ K_)
      all_goals first | refine ⟨hil, (by simp only [go_sem, simprocAttr, h0]), (by simp only [go_sem, simprocAttr, h5]), (by simp only [go_sem, simprocAttr, h6]), (by simp only [go_sem, simprocAttr, ]), hxt, ?_⟩ | refine ⟨?_, hxt⟩
      all_goals simp_all [rightFrom, prevAt]
    · repeat' (first | refine st ?_ | refine pblock_en rfl ?_ | (refine ss ?_; intro K_ hK_) | refine vc_draw' (by kernel_rfl) fun K_ hK_ => ?_ | refine vops_gf rfl ?_ | refine vops_gt rfl ?_ | refine vd_gf rfl ?_ | refine vd_gt rfl ?_ | (refine sk ?_; intro k_ hk_; simp only [go_sem, simprocAttr, h0, h5, h6, h7, ilt hil, inpos hi0, g1, wrap_succ (n := i) (by omega)]; (with_reducible first | refine hk_ _ _ ?_ | refine hk_ _ ?_ | refine hk_ _ _ (by (first | exact HExtR.refl _ | (refine HExtR.push ?_; first | rfl | simp only [go_sem, h0, h5, h6, h7, ilt hil, inpos hi0, g1, wrap_succ (n := i) (by omega)]))) ?_); clear hk_ k_) | ((first | refine sg ?_ | refine sc ?_); intro x_ y_ hx_ hy_; simp only [go_sem, simprocAttr, h0, h5, h6, h7, ilt hil, inpos hi0, g1, wrap_succ (n := i) (by omega)]; ((first | (with_reducible first | refine hx_ ?_ | refine hy_ ?_) | (with_reducible first | refine bI_split (fun h_ => hx_ ?_) (fun h_ => hy_ ?_) | refine bI_split (fun h_ => hy_ ?_) (fun h_ => hx_ ?_)) <;> try rw [h_]) <;> clear hx_ hy_ x_ y_)) | (with_reducible first | refine callv_pure (formed_c _ _) ?_ | refine callv_pure (goes_c _ _ _) ?_ | refine vcalld_pure (formed_c _ _) ?_ | refine vcalld_pure (goes_c _ _ _) ?_) | ((with_reducible first | refine hK_ _ _ ?_ | refine hK_ _ _ _ _ (Weak.refl _ _) ?_); clear hK_ K_) | clear hK_ K_)
      all_goals first | refine ⟨hil, (by simp only [go_sem, simprocAttr, h0]), (by simp only [go_sem, simprocAttr, h5]), (by simp only [go_sem, simprocAttr, h6]), (by simp only [go_sem, simprocAttr, ]), hxt, ?_⟩ | refine ⟨?_, hxt⟩
      all_goals
        have : i = 0 := by omega
        subst this
        simp_all [rightFrom, prevAt]
  · repeat' (first | refine st ?_ | refine pblock_en rfl ?_ | (refine ss ?_; intro K_ hK_) | refine vc_draw' (by kernel_rfl) fun K_ hK_ => ?_ | refine vops_gf rfl ?_ | refine vops_gt rfl ?_ | refine vd_gf rfl ?_ | refine vd_gt rfl ?_ | (refine sk ?_; intro k_ hk_; simp only [go_sem, simprocAttr, h0, h5, h6, h7, ige hil]; (with_reducible first | refine hk_ _ _ ?_ | refine hk_ _ ?_ | refine hk_ _ _ (by (first | exact HExtR.refl _ | (refine HExtR.push ?_; first | rfl | simp only [go_sem, h0, h5, h6, h7, ige hil]))) ?_); clear hk_ k_) | ((first | refine sg ?_ | refine sc ?_); intro x_ y_ hx_ hy_; simp only [go_sem, simprocAttr, h0, h5, h6, h7, ige hil]; ((first | (with_reducible first | refine hx_ ?_ | refine hy_ ?_) | (with_reducible first | refine bI_split (fun h_ => hx_ ?_) (fun h_ => hy_ ?_) | refine bI_split (fun h_ => hy_ ?_) (fun h_ => hx_ ?_)) <;> try rw [h_]) <;> clear hx_ hy_ x_ y_)) | ((with_reducible first | refine hK_ _ _ ?_ | refine hK_ _ _ _ _ (Weak.refl _ _) ?_); clear hK_ K_) | clear hK_ K_)
    have : i = l.length := by omega
    subst this
    refine ⟨?_, hxt⟩
    rw [hr]; simp [rightFrom]
end Go.Abs
/-
  list.within, list.Within, list.Covered.
-/
namespace Go.Abs
set_option linter.unusedVariables false
set_option linter.unusedSimpArgs false
open Go.Proofs
set_option maxHeartbeats 4000000

theorem fm_take {f : Ar → Option Ar} {l : List Ar} {i : Nat} {a : Ar} (ha : l[i]? = some a) : (l.take (i + 1)).filterMap f = (l.take i).filterMap f ++ (f a).toList := by
  rw [List.take_add_one, ha]
  simp only [Option.toList_some, List.filterMap_append, List.filterMap_cons, List.filterMap_nil]
  cases f a <;> rfl
theorem fm_len (f : Ar → Option Ar) (l : List Ar) : (l.filterMap f).length ≤ l.length := List.length_filterMap_le _ _
theorem fm_take_len (f : Ar → Option Ar) (l : List Ar) (i : Nat) : ((l.take i).filterMap f).length ≤ i := Nat.le_trans (fm_len _ _) (by simp; omega)

theorem within_g (l : List Ar) (hl : l.length < 1000000) (lo hi : Int) (H : Heap) :
    ACallsR Try.prog 63 [.s (LV Ar.c l), .s (I lo), .s (I hi)] H fun r H' => ∃ y, r = .s y ∧ IsG Ar.c 6 H.n H' y (withinS l lo hi) ∧ HExt H H' := by
  refine acalls_of te_ok mix Try.func63 rfl Try.call63 (by kernel_rfl) (by kernel_rfl) rfl ?_; simp only [Try.results63]
  repeat' (first | refine st ?_ | refine pblock_en rfl ?_ | (refine ss ?_; intro K_ hK_) | refine vops_gf rfl ?_ | refine vops_gt rfl ?_ | (refine sk ?_; intro k_ hk_; simp only [go_sem, simprocAttr]; (with_reducible first | refine hk_ _ _ ?_ | refine hk_ _ ?_); clear hk_ k_) | ((first | refine sg ?_ | refine sc ?_); intro x_ y_ hx_ hy_; simp only [go_sem, simprocAttr]; ((first | (with_reducible first | refine hx_ ?_ | refine hy_ ?_) | (with_reducible first | refine bI_split (fun h_ => hx_ ?_) (fun h_ => hy_ ?_) | refine bI_split (fun h_ => hy_ ?_) (fun h_ => hx_ ?_)) <;> try rw [h_]) <;> clear hx_ hy_ x_ y_)) | ((with_reducible first | refine hK_ _ _ ?_ | refine hK_ _ _ _ _ (Weak.refl _ _) ?_); clear hK_ K_) | clear hK_ K_)
  refine vc_range l.length (fun i σ' H' => ∃ y, σ' 1 = .s (I lo) ∧ σ' 2 = .s (I hi) ∧ σ' 12 = .s (LV Ar.c l) ∧ σ' 13 = .s (I l.length) ∧ σ' 14 = .s (I i) ∧ σ' 7 = .s y ∧ HExt H H' ∧ IsG Ar.c 6 H.n H' y ((l.take i).filterMap fun a => apart a lo hi)) ⟨_, rfl, rfl, rfl, rfl, rfl, rfl, HExt.refl _, IsG.nil⟩ ?_
  rintro i σ' H' hi' ⟨y, h1, h2, h12, h13, h14, h7, hx', hg⟩
  have hn' := hx'.1
  by_cases hil : i < l.length
  · have ha : l[i]? = some l[i] := List.getElem?_eq_getElem hil
    generalize l[i] = a at ha
    have g1 := FL_at ar_len ha
    have hw := fm_take (f := fun a => apart a lo hi) ha
    have hwl := fm_take_len (fun a => apart a lo hi) l i
    generalize (l.take i).filterMap (fun a => apart a lo hi) = out at hg hw hwl
    rcases hp : apart a lo hi with _ | p
    · simp only [hp, Option.toList_none, List.append_nil] at hw
      repeat' (first | refine st ?_ | refine pblock_en rfl ?_ | (refine ss ?_; intro K_ hK_) | refine vops_gf rfl ?_ | refine vops_gt rfl ?_ | (refine sk ?_; intro k_ hk_; simp only [go_sem, simprocAttr, h1, h2, h12, h13, h14, h7, ilt hil, g1, hp, wrap_succ (n := i) (by omega)]; (with_reducible first | refine hk_ _ _ ?_ | refine hk_ _ ?_); clear hk_ k_) | ((first | refine sg ?_ | refine sc ?_); intro x_ y_ hx_ hy_; simp only [go_sem, simprocAttr, h1, h2, h12, h13, h14, h7, ilt hil, g1, hp, wrap_succ (n := i) (by omega)]; ((first | (with_reducible first | refine hx_ ?_ | refine hy_ ?_) | (with_reducible first | refine bI_split (fun h_ => hx_ ?_) (fun h_ => hy_ ?_) | refine bI_split (fun h_ => hy_ ?_) (fun h_ => hx_ ?_)) <;> try rw [h_]) <;> clear hx_ hy_ x_ y_)) | (with_reducible first | refine callv_pure (part_c _ _ _ _) ?_) | ((with_reducible first | refine hK_ _ _ ?_ | refine hK_ _ _ _ _ (Weak.refl _ _) ?_); clear hK_ K_) | clear hK_ K_)
      refine ⟨hil, _, (by simp only [go_sem, simprocAttr, h1]), (by simp only [go_sem, simprocAttr, h2]), (by simp only [go_sem, simprocAttr, h12]), (by simp only [go_sem, simprocAttr, h13]), (by simp only [go_sem, simprocAttr, ]), (by (try simp only [go_sem, simprocAttr, h7]); first | done | exact rfl), hxt, ?_⟩
      rw [hw]; exact hg.ext (hxo)
    · simp only [hp, Option.toList_some] at hw
      repeat' (first | refine st ?_ | refine pblock_en rfl ?_ | (refine ss ?_; intro K_ hK_) | refine vops_gf rfl ?_ | refine vops_gt rfl ?_ | (refine sk ?_; intro k_ hk_; simp only [go_sem, simprocAttr, h1, h2, h12, h13, h14, h7, ilt hil, g1, hp, wrap_succ (n := i) (by omega)]; (with_reducible first | refine hk_ _ _ ?_ | refine hk_ _ ?_); clear hk_ k_) | ((first | refine sg ?_ | refine sc ?_); intro x_ y_ hx_ hy_; simp only [go_sem, simprocAttr, h1, h2, h12, h13, h14, h7, ilt hil, g1, hp, wrap_succ (n := i) (by omega)]; ((first | (with_reducible first | refine hx_ ?_ | refine hy_ ?_) | (with_reducible first | refine bI_split (fun h_ => hx_ ?_) (fun h_ => hy_ ?_) | refine bI_split (fun h_ => hy_ ?_) (fun h_ => hx_ ?_)) <;> try rw [h_]) <;> clear hx_ hy_ x_ y_)) | (with_reducible first | refine callv_pure (part_c _ _ _ _) ?_) | ((with_reducible first | refine hK_ _ _ ?_ | refine hK_ _ _ _ _ (Weak.refl _ _) ?_); clear hK_ K_) | clear hK_ K_)
      refine vx_append (f := Ar.c) (sz := 6) (H0 := H) (new := [p]) rfl rfl rfl rfl rfl rfl ar_len hxt (hg.ext (hxo)) (by simp only [go_sem, simprocAttr, h7]) (by simp only [go_sem, simprocAttr, FL_one]) (by simp; omega) ?_
      intro y' H3 hg3 hx3 _
      repeat' (first | refine st ?_ | refine pblock_en rfl ?_ | (refine ss ?_; intro K_ hK_) | refine vops_gf rfl ?_ | refine vops_gt rfl ?_ | (refine sk ?_; intro k_ hk_; simp only [go_sem, simprocAttr, h1, h2, h12, h13, h14, wrap_succ (n := i) (by omega)]; (with_reducible first | refine hk_ _ _ ?_ | refine hk_ _ ?_); clear hk_ k_) | ((first | refine sg ?_ | refine sc ?_); intro x_ y_ hx_ hy_; simp only [go_sem, simprocAttr, h1, h2, h12, h13, h14, wrap_succ (n := i) (by omega)]; ((first | (with_reducible first | refine hx_ ?_ | refine hy_ ?_) | (with_reducible first | refine bI_split (fun h_ => hx_ ?_) (fun h_ => hy_ ?_) | refine bI_split (fun h_ => hy_ ?_) (fun h_ => hx_ ?_)) <;> try rw [h_]) <;> clear hx_ hy_ x_ y_)) | ((with_reducible first | refine hK_ _ _ ?_ | refine hK_ _ _ _ _ (Weak.refl _ _) ?_); clear hK_ K_) | clear hK_ K_)
      exact ⟨hil, y', (by simp only [go_sem, simprocAttr, h1]), (by simp only [go_sem, simprocAttr, h2]), (by simp only [go_sem, simprocAttr, h12]), (by simp only [go_sem, simprocAttr, h13]), (by simp only [go_sem, simprocAttr, ]), (by simp only [go_sem, simprocAttr, ]), hx3, by rw [hw]; exact hg3⟩
  · repeat' (first | refine st ?_ | refine pblock_en rfl ?_ | (refine ss ?_; intro K_ hK_) | refine vops_gf rfl ?_ | refine vops_gt rfl ?_ | (refine sk ?_; intro k_ hk_; simp only [go_sem, simprocAttr, h1, h2, h12, h13, h14, h7, ige hil]; (with_reducible first | refine hk_ _ _ ?_ | refine hk_ _ ?_); clear hk_ k_) | ((first | refine sg ?_ | refine sc ?_); intro x_ y_ hx_ hy_; simp only [go_sem, simprocAttr, h1, h2, h12, h13, h14, h7, ige hil]; ((first | (with_reducible first | refine hx_ ?_ | refine hy_ ?_) | (with_reducible first | refine bI_split (fun h_ => hx_ ?_) (fun h_ => hy_ ?_) | refine bI_split (fun h_ => hy_ ?_) (fun h_ => hx_ ?_)) <;> try rw [h_]) <;> clear hx_ hy_ x_ y_)) | ((with_reducible first | refine hK_ _ _ ?_ | refine hK_ _ _ _ _ (Weak.refl _ _) ?_); clear hK_ K_) | clear hK_ K_)
    have : i = l.length := by omega
    subst this
    rw [List.take_length] at hg
    exact ⟨_, rfl, hg, hx'⟩
theorem within_c (l : List Ar) (hl : l.length < 1000000) (lo hi : Int) (H : Heap) : ACalls Try.prog 63 [.s (LV Ar.c l), .s (I lo), .s (I hi)] H (.s (LV Ar.c (withinS l lo hi))) H := acalls_of_G ar_pers (within_g l hl lo hi H)
theorem within_len (l : List Ar) (lo hi : Int) : (withinS l lo hi).length ≤ l.length := fm_len _ _

theorem Within_c (l : List Ar) (hl : l.length < 1000000) (lo hi : Int) (H : Heap) : ACalls Try.prog 75 [.s (LV Ar.c l), .s (I lo), .s (I hi)] H (.s (LV Ar.c (WithinS l lo hi))) H := by
  refine acalls_fz te_ok mix Try.func75 rfl Try.call75 (by kernel_rfl) (by kernel_rfl) rfl ?_; simp only [Try.results75]
  repeat' (first | refine st ?_ | refine pblock_en rfl ?_ | (refine ss ?_; intro K_ hK_) | refine vops_gf rfl ?_ | refine vops_gt rfl ?_ | (refine sk ?_; intro k_ hk_; simp only [go_sem, simprocAttr]; (with_reducible first | refine hk_ _ _ ?_ | refine hk_ _ ?_); clear hk_ k_) | ((first | refine sg ?_ | refine sc ?_); intro x_ y_ hx_ hy_; simp only [go_sem, simprocAttr]; ((first | (with_reducible first | refine hx_ ?_ | refine hy_ ?_) | (with_reducible first | refine bI_split (fun h_ => hx_ ?_) (fun h_ => hy_ ?_) | refine bI_split (fun h_ => hy_ ?_) (fun h_ => hx_ ?_)) <;> try rw [h_]) <;> clear hx_ hy_ x_ y_)) | (with_reducible first | refine callv_pure (right_c l hl _) ?_ | refine callv_pure (within_c l hl _ _ _) ?_) | ((with_reducible first | refine hK_ _ _ ?_ | refine hK_ _ _ _ _ (Weak.refl _ _) ?_); clear hK_ K_) | clear hK_ K_)
  all_goals refine ⟨hxt, ?_⟩
  all_goals first
    | (have e : WithinS l lo hi = [] := by (simp_all [WithinS]; done)
       rw [e]; exact ⟨_, .inr (.inl ⟨rfl, rfl, rfl⟩)⟩)
    | (have e : WithinS l lo hi = withinS l lo hi := by (simp_all [WithinS]; intro h; omega)
       rw [e]; exact frz_self rfl rfl)

theorem covered_c (l : List Ar) (hl : l.length < 1000000) (lo hi : Int) (H : Heap) : ACalls Try.prog 60 [.s (LV Ar.c l), .s (I lo), .s (I hi)] H (.s (Bo (covered l lo hi))) H := by
  refine acalls_pure te_ok mix Try.func60 rfl Try.call60 (by kernel_rfl) (by kernel_rfl) rfl rfl ?_; simp only [Try.results60]
  repeat' (first | refine st ?_ | refine pblock_en rfl ?_ | (refine ss ?_; intro K_ hK_) | refine vops_gf rfl ?_ | refine vops_gt rfl ?_ | (refine sk ?_; intro k_ hk_; simp only [go_sem, simprocAttr]; (with_reducible first | refine hk_ _ _ ?_ | refine hk_ _ ?_); clear hk_ k_) | ((first | refine sg ?_ | refine sc ?_); intro x_ y_ hx_ hy_; simp only [go_sem, simprocAttr]; ((first | (with_reducible first | refine hx_ ?_ | refine hy_ ?_) | (with_reducible first | refine bI_split (fun h_ => hx_ ?_) (fun h_ => hy_ ?_) | refine bI_split (fun h_ => hy_ ?_) (fun h_ => hx_ ?_)) <;> try rw [h_]) <;> clear hx_ hy_ x_ y_)) | (with_reducible first | refine callv_pure (right_c l hl _) ?_ | refine callv_pure (lfloor_c _ _) ?_ | refine callv_pure (within_c l hl _ _ _) ?_) | ((with_reducible first | refine hK_ _ _ ?_ | refine hK_ _ _ _ _ (Weak.refl _ _) ?_); clear hK_ K_) | clear hK_ K_)
  all_goals try (refine ⟨?_, HExt.refl _⟩; simp_all [covered]; done)
  all_goals try (refine ⟨?_, HExt.refl _⟩; simp_all [covered]; omega)
  have hwl := within_len l lo hi
  have key : covered l lo hi = covEnd (covFrom (afloor lo) (withinS l lo hi)) hi := by
    simp_all [covered]
  generalize withinS l lo hi = ps at hwl key
  refine vc_range ps.length (fun i σ' H' => ∃ at_, σ' 2 = .s (I hi) ∧ σ' 31 = .s (LV Ar.c ps) ∧ σ' 32 = .s (I ps.length) ∧ σ' 33 = .s (I i) ∧ σ' 7 = .s (I at_) ∧ HExt H H' ∧ covFrom (afloor lo) ps = covFrom at_ (ps.drop i)) ⟨_, rfl, rfl, rfl, rfl, rfl, HExt.refl _, rfl⟩ ?_
  rintro i σ' H' hi' ⟨at_, h2, h31, h32, h33, h7, hx', hc⟩
  have hn' := hx'.1
  by_cases hil : i < ps.length
  · have ha : ps[i]? = some ps[i] := List.getElem?_eq_getElem hil
    generalize ps[i] = a at ha
    have g1 := FL_at ar_len ha
    rw [drop_at ha, covFrom] at hc
    repeat' (first | refine st ?_ | refine pblock_en rfl ?_ | (refine ss ?_; intro K_ hK_) | refine vops_gf rfl ?_ | refine vops_gt rfl ?_ | (refine sk ?_; intro k_ hk_; simp only [go_sem, simprocAttr, h2, h31, h32, h33, h7, ilt hil, g1, wrap_succ (n := i) (by omega)]; (with_reducible first | refine hk_ _ _ ?_ | refine hk_ _ ?_); clear hk_ k_) | ((first | refine sg ?_ | refine sc ?_); intro x_ y_ hx_ hy_; simp only [go_sem, simprocAttr, h2, h31, h32, h33, h7, ilt hil, g1, wrap_succ (n := i) (by omega)]; ((first | (with_reducible first | refine hx_ ?_ | refine hy_ ?_) | (with_reducible first | refine bI_split (fun h_ => hx_ ?_) (fun h_ => hy_ ?_) | refine bI_split (fun h_ => hy_ ?_) (fun h_ => hx_ ?_)) <;> try rw [h_]) <;> clear hx_ hy_ x_ y_)) | ((with_reducible first | refine hK_ _ _ ?_ | refine hK_ _ _ _ _ (Weak.refl _ _) ?_); clear hK_ K_) | clear hK_ K_)
    all_goals first
      | (refine ⟨hil, _, (by simp only [go_sem, simprocAttr, h2]), (by simp only [go_sem, simprocAttr, h31]), (by simp only [go_sem, simprocAttr, h32]), (by simp only [go_sem, simprocAttr, ]), (by (try simp only [go_sem, simprocAttr, h7]); first | done | exact rfl), hxt, ?_⟩
         rw [hc, if_pos (by simp_all)])
      | (refine ⟨?_, hxt⟩
         rw [key, hc, if_neg (by simp_all)]; rfl)
  · repeat' (first | refine st ?_ | refine pblock_en rfl ?_ | (refine ss ?_; intro K_ hK_) | refine vops_gf rfl ?_ | refine vops_gt rfl ?_ | (refine sk ?_; intro k_ hk_; simp only [go_sem, simprocAttr, h2, h31, h32, h33, h7, ige hil]; (with_reducible first | refine hk_ _ _ ?_ | refine hk_ _ ?_); clear hk_ k_) | ((first | refine sg ?_ | refine sc ?_); intro x_ y_ hx_ hy_; simp only [go_sem, simprocAttr, h2, h31, h32, h33, h7, ige hil]; ((first | (with_reducible first | refine hx_ ?_ | refine hy_ ?_) | (with_reducible first | refine bI_split (fun h_ => hx_ ?_) (fun h_ => hy_ ?_) | refine bI_split (fun h_ => hy_ ?_) (fun h_ => hx_ ?_)) <;> try rw [h_]) <;> clear hx_ hy_ x_ y_)) | ((with_reducible first | refine hK_ _ _ ?_ | refine hK_ _ _ _ _ (Weak.refl _ _) ?_); clear hK_ K_) | clear hK_ K_)
    have : i = ps.length := by omega
    subst this
    refine ⟨?_, hxt⟩
    rw [key, hc]; simp [covFrom, covEnd]
end Go.Abs
