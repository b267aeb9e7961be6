/-
  What the program's functions compute: checks, mapping and protecting; numbers.
-/
import Derived.Test.YtcgogenmikakkaaP0
namespace Go.Abs
set_option linter.unusedVariables false
set_option linter.unusedSimpArgs false
open Go.RowKit

def ansE (e : Int) : Ar := ⟨e, 0, 0, false, 0, 0⟩
def ansV (v : Int) : Ar := ⟨0, v, 0, false, 0, 0⟩
def sizeS (n : Int) : Int × Int := if n = 0 then (0, 3) else if n < 0 ∨ n > 2031616 then (0, 4) else ((n + 4095) / 4096 * 4096, 0)
def rangeS (a n : Int) : Int × Int × Int :=
  if a % 4096 ≠ 0 then (0, 0, 2) else if (sizeS n).2 ≠ 0 then (0, 0, (sizeS n).2) else if a < 65536 ∨ a > 2097152 - (sizeS n).1 then (0, 0, 4) else (a, a + (sizeS n).1, 0)
def protS (p : Int) : Int := if p < 0 ∨ p > 7 then 1 else 0
def mayS (l : List Ar) : Bool := right l && decide (l.length ≤ 24)
def keptS (was now : List Ar) (v : Int) : List Ar × Ar := if now.length > 24 then (was, ansE 9) else (now, ansV v)
/-- what is wrong with what is to be protected, and its range -/
def pwrongS (l : List Ar) (c : Ca) : Int × Int × Int :=
  if !mayS l then (0, 0, 1)
  else
    let r := rangeS c.a c.l
    if r.2.2 ≠ 0 then r
    else if protS c.p ≠ 0 then (r.1, r.2.1, protS c.p)
    else if !covered l r.1 r.2.1 then (r.1, r.2.1, 7) else r
def protectS (l : List Ar) (c : Ca) : List Ar × Ar :=
  if (pwrongS l c).2.2 ≠ 0 then (l, ansE (pwrongS l c).2.2) else keptS l (setS l (pwrongS l c).1 (pwrongS l c).2.1 c.p) 0
def faultS (l : List Ar) (c : Ca) : Ar :=
  if !mayS l || decide (c.p < 1) || decide (c.p > 7) then ansE 1
  else match findS l c.a with
    | none => ansE 7
    | some a => if may a c.p then ⟨0, 0, (atr a c.a).p, (atr a c.a).sh, (atr a c.a).b, (atr a c.a).o⟩ else ansE 8

theorem ar_setat (a : Ar) (t : At) : setAll a.c 2 t.c = Ar.c { a with p := t.p, sh := t.sh, b := t.b, o := t.o } := rfl
theorem pg_setat (a : Pg) (t : At) : setAll a.c 1 t.c = Pg.c { a with p := t.p, sh := t.sh, b := t.b, o := t.o } := rfl
attribute [go_sem] ar_setat pg_setat
theorem tmod_zero (a : Int) : (a.tmod 4096 = 0) = (a % 4096 = 0) := by
  rw [← Int.dvd_iff_tmod_eq_zero, ← Int.dvd_iff_emod_eq_zero]
theorem size_wrap {n : Int} (h0 : 0 ≤ n) (h1 : n ≤ 2031616) : IntKind.i64.wrap (IntKind.i64.wrap ((IntKind.i64.wrap (IntKind.i64.wrap (n + 4096) - 1)).tdiv 4096) * 4096) = (n + 4095) / 4096 * 4096 := by
  rw [wrap_id (n := n + 4096) (by omega) (by omega), wrap_id (n := n + 4096 - 1) (by omega) (by omega), Int.tdiv_eq_ediv_of_nonneg (by omega), wrap_id (n := (n + 4096 - 1) / 4096) (by omega) (by omega), wrap_id (by omega) (by omega)]
  omega
end Go.Abs
