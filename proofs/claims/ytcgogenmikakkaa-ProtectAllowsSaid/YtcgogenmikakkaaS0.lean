/-
  The structs of the program, as plain ones, and their cells. (Printed by structs.py.)
-/
import Derived.Test.YtcgogenmikakkaaAbs1
import Derived.Test.YtcgogenmikakkaaAbs11
namespace Go.Abs
set_option linter.unusedVariables false
set_option linter.unusedSimpArgs false
open Go.RowKit

abbrev I (n : Int) : SV := .raw (.int .i64 n)
abbrev Bo (b : Bool) : SV := .raw (.bool b)
abbrev wr (n : Int) : Int := IntKind.i64.wrap n

structure At where
  p : Int
  sh : Bool
  b : Int
  o : Int
  deriving DecidableEq
def At.c (a : At) : List SV := [I a.p, Bo a.sh, I a.b, I a.o]
def At.zero : At := ⟨0, false, 0, 0⟩
theorem at_len (a : At) : a.c.length = 4 := rfl
theorem at_take (a : At) : List.take 4 a.c = a.c := rfl
theorem at_all (a b : At) : setAll a.c 0 b.c = b.c := rfl
theorem at_pers (a : At) : a.c.all pers = true := rfl
theorem at_fold (p : Int) (sh : Bool) (b : Int) (o : Int) : [SV.raw (.int .i64 p), SV.raw (.bool sh), SV.raw (.int .i64 b), SV.raw (.int .i64 o)] = At.c ⟨p, sh, b, o⟩ := rfl
theorem at_atake (a : At) (r : List SV) : List.take 4 (a.c ++ r) = a.c := rfl
theorem at_get0 (a : At) : a.c[0]? = some (I a.p) := rfl
theorem at_set0 (a : At) (x : Int) : a.c.set 0 (I x) = At.c { a with p := x } := rfl
theorem at_aget0 (a : At) (r : List SV) : (a.c ++ r)[0]? = some (I a.p) := rfl
theorem at_aset0 (a : At) (r : List SV) (x : Int) : (a.c ++ r).set 0 (I x) = At.c { a with p := x } ++ r := rfl
theorem at_get1 (a : At) : a.c[1]? = some (Bo a.sh) := rfl
theorem at_set1 (a : At) (x : Bool) : a.c.set 1 (Bo x) = At.c { a with sh := x } := rfl
theorem at_aget1 (a : At) (r : List SV) : (a.c ++ r)[1]? = some (Bo a.sh) := rfl
theorem at_aset1 (a : At) (r : List SV) (x : Bool) : (a.c ++ r).set 1 (Bo x) = At.c { a with sh := x } ++ r := rfl
theorem at_get2 (a : At) : a.c[2]? = some (I a.b) := rfl
theorem at_set2 (a : At) (x : Int) : a.c.set 2 (I x) = At.c { a with b := x } := rfl
theorem at_aget2 (a : At) (r : List SV) : (a.c ++ r)[2]? = some (I a.b) := rfl
theorem at_aset2 (a : At) (r : List SV) (x : Int) : (a.c ++ r).set 2 (I x) = At.c { a with b := x } ++ r := rfl
theorem at_get3 (a : At) : a.c[3]? = some (I a.o) := rfl
theorem at_set3 (a : At) (x : Int) : a.c.set 3 (I x) = At.c { a with o := x } := rfl
theorem at_aget3 (a : At) (r : List SV) : (a.c ++ r)[3]? = some (I a.o) := rfl
theorem at_aset3 (a : At) (r : List SV) (x : Int) : (a.c ++ r).set 3 (I x) = At.c { a with o := x } ++ r := rfl
def At.v (a : At) : List Value := [.int .i64 a.p, .bool a.sh, .int .i64 a.b, .int .i64 a.o]
theorem at_rawL (a : At) : rawL a.c = some a.v := rfl
theorem at_shape (a : At) : shapeL [.int .i64 0, .bool false, .int .i64 0, .int .i64 0] a.v = true := rfl
theorem at_eqL (a b : At) : eqL a.v b.v = decide (a = b) := by
  cases a; cases b; simp only [At.v, eqL, eqV, Bool.and_true, At.mk.injEq]; rw [Bool.eq_iff_iff]; simp
attribute [go_sem] at_len at_take at_all at_pers at_fold at_atake at_get0 at_set0 at_aget0 at_aset0 at_get1 at_set1 at_aget1 at_aset1 at_get2 at_set2 at_aget2 at_aset2 at_get3 at_set3 at_aget3 at_aset3 at_rawL at_shape at_eqL

structure Ar where
  s : Int
  e : Int
  p : Int
  sh : Bool
  b : Int
  o : Int
  deriving DecidableEq
def Ar.c (a : Ar) : List SV := [I a.s, I a.e, I a.p, Bo a.sh, I a.b, I a.o]
def Ar.zero : Ar := ⟨0, 0, 0, false, 0, 0⟩
theorem ar_len (a : Ar) : a.c.length = 6 := rfl
theorem ar_take (a : Ar) : List.take 6 a.c = a.c := rfl
theorem ar_all (a b : Ar) : setAll a.c 0 b.c = b.c := rfl
theorem ar_pers (a : Ar) : a.c.all pers = true := rfl
theorem ar_fold (s : Int) (e : Int) (p : Int) (sh : Bool) (b : Int) (o : Int) : [SV.raw (.int .i64 s), SV.raw (.int .i64 e), SV.raw (.int .i64 p), SV.raw (.bool sh), SV.raw (.int .i64 b), SV.raw (.int .i64 o)] = Ar.c ⟨s, e, p, sh, b, o⟩ := rfl
theorem ar_atake (a : Ar) (r : List SV) : List.take 6 (a.c ++ r) = a.c := rfl
theorem ar_get0 (a : Ar) : a.c[0]? = some (I a.s) := rfl
theorem ar_set0 (a : Ar) (x : Int) : a.c.set 0 (I x) = Ar.c { a with s := x } := rfl
theorem ar_aget0 (a : Ar) (r : List SV) : (a.c ++ r)[0]? = some (I a.s) := rfl
theorem ar_aset0 (a : Ar) (r : List SV) (x : Int) : (a.c ++ r).set 0 (I x) = Ar.c { a with s := x } ++ r := rfl
theorem ar_get1 (a : Ar) : a.c[1]? = some (I a.e) := rfl
theorem ar_set1 (a : Ar) (x : Int) : a.c.set 1 (I x) = Ar.c { a with e := x } := rfl
theorem ar_aget1 (a : Ar) (r : List SV) : (a.c ++ r)[1]? = some (I a.e) := rfl
theorem ar_aset1 (a : Ar) (r : List SV) (x : Int) : (a.c ++ r).set 1 (I x) = Ar.c { a with e := x } ++ r := rfl
theorem ar_get2 (a : Ar) : a.c[2]? = some (I a.p) := rfl
theorem ar_set2 (a : Ar) (x : Int) : a.c.set 2 (I x) = Ar.c { a with p := x } := rfl
theorem ar_aget2 (a : Ar) (r : List SV) : (a.c ++ r)[2]? = some (I a.p) := rfl
theorem ar_aset2 (a : Ar) (r : List SV) (x : Int) : (a.c ++ r).set 2 (I x) = Ar.c { a with p := x } ++ r := rfl
theorem ar_get3 (a : Ar) : a.c[3]? = some (Bo a.sh) := rfl
theorem ar_set3 (a : Ar) (x : Bool) : a.c.set 3 (Bo x) = Ar.c { a with sh := x } := rfl
theorem ar_aget3 (a : Ar) (r : List SV) : (a.c ++ r)[3]? = some (Bo a.sh) := rfl
theorem ar_aset3 (a : Ar) (r : List SV) (x : Bool) : (a.c ++ r).set 3 (Bo x) = Ar.c { a with sh := x } ++ r := rfl
theorem ar_get4 (a : Ar) : a.c[4]? = some (I a.b) := rfl
theorem ar_set4 (a : Ar) (x : Int) : a.c.set 4 (I x) = Ar.c { a with b := x } := rfl
theorem ar_aget4 (a : Ar) (r : List SV) : (a.c ++ r)[4]? = some (I a.b) := rfl
theorem ar_aset4 (a : Ar) (r : List SV) (x : Int) : (a.c ++ r).set 4 (I x) = Ar.c { a with b := x } ++ r := rfl
theorem ar_get5 (a : Ar) : a.c[5]? = some (I a.o) := rfl
theorem ar_set5 (a : Ar) (x : Int) : a.c.set 5 (I x) = Ar.c { a with o := x } := rfl
theorem ar_aget5 (a : Ar) (r : List SV) : (a.c ++ r)[5]? = some (I a.o) := rfl
theorem ar_aset5 (a : Ar) (r : List SV) (x : Int) : (a.c ++ r).set 5 (I x) = Ar.c { a with o := x } ++ r := rfl
def Ar.v (a : Ar) : List Value := [.int .i64 a.s, .int .i64 a.e, .int .i64 a.p, .bool a.sh, .int .i64 a.b, .int .i64 a.o]
theorem ar_rawL (a : Ar) : rawL a.c = some a.v := rfl
theorem ar_shape (a : Ar) : shapeL [.int .i64 0, .int .i64 0, .int .i64 0, .bool false, .int .i64 0, .int .i64 0] a.v = true := rfl
theorem ar_eqL (a b : Ar) : eqL a.v b.v = decide (a = b) := by
  cases a; cases b; simp only [Ar.v, eqL, eqV, Bool.and_true, Ar.mk.injEq]; rw [Bool.eq_iff_iff]; simp
attribute [go_sem] ar_len ar_take ar_all ar_pers ar_fold ar_atake ar_get0 ar_set0 ar_aget0 ar_aset0 ar_get1 ar_set1 ar_aget1 ar_aset1 ar_get2 ar_set2 ar_aget2 ar_aset2 ar_get3 ar_set3 ar_aget3 ar_aset3 ar_get4 ar_set4 ar_aget4 ar_aset4 ar_get5 ar_set5 ar_aget5 ar_aset5 ar_rawL ar_shape ar_eqL

structure Ca where
  k : Int
  a : Int
  l : Int
  n : Int
  t : Int
  p : Int
  f : Int
  b : Int
  o : Int
  deriving DecidableEq
def Ca.c (a : Ca) : List SV := [I a.k, I a.a, I a.l, I a.n, I a.t, I a.p, I a.f, I a.b, I a.o]
def Ca.zero : Ca := ⟨0, 0, 0, 0, 0, 0, 0, 0, 0⟩
theorem ca_len (a : Ca) : a.c.length = 9 := rfl
theorem ca_take (a : Ca) : List.take 9 a.c = a.c := rfl
theorem ca_all (a b : Ca) : setAll a.c 0 b.c = b.c := rfl
theorem ca_pers (a : Ca) : a.c.all pers = true := rfl
theorem ca_fold (k : Int) (a : Int) (l : Int) (n : Int) (t : Int) (p : Int) (f : Int) (b : Int) (o : Int) : [SV.raw (.int .i64 k), SV.raw (.int .i64 a), SV.raw (.int .i64 l), SV.raw (.int .i64 n), SV.raw (.int .i64 t), SV.raw (.int .i64 p), SV.raw (.int .i64 f), SV.raw (.int .i64 b), SV.raw (.int .i64 o)] = Ca.c ⟨k, a, l, n, t, p, f, b, o⟩ := rfl
theorem ca_atake (a : Ca) (r : List SV) : List.take 9 (a.c ++ r) = a.c := rfl
theorem ca_get0 (a : Ca) : a.c[0]? = some (I a.k) := rfl
theorem ca_set0 (a : Ca) (x : Int) : a.c.set 0 (I x) = Ca.c { a with k := x } := rfl
theorem ca_aget0 (a : Ca) (r : List SV) : (a.c ++ r)[0]? = some (I a.k) := rfl
theorem ca_aset0 (a : Ca) (r : List SV) (x : Int) : (a.c ++ r).set 0 (I x) = Ca.c { a with k := x } ++ r := rfl
theorem ca_get1 (a : Ca) : a.c[1]? = some (I a.a) := rfl
theorem ca_set1 (a : Ca) (x : Int) : a.c.set 1 (I x) = Ca.c { a with a := x } := rfl
theorem ca_aget1 (a : Ca) (r : List SV) : (a.c ++ r)[1]? = some (I a.a) := rfl
theorem ca_aset1 (a : Ca) (r : List SV) (x : Int) : (a.c ++ r).set 1 (I x) = Ca.c { a with a := x } ++ r := rfl
theorem ca_get2 (a : Ca) : a.c[2]? = some (I a.l) := rfl
theorem ca_set2 (a : Ca) (x : Int) : a.c.set 2 (I x) = Ca.c { a with l := x } := rfl
theorem ca_aget2 (a : Ca) (r : List SV) : (a.c ++ r)[2]? = some (I a.l) := rfl
theorem ca_aset2 (a : Ca) (r : List SV) (x : Int) : (a.c ++ r).set 2 (I x) = Ca.c { a with l := x } ++ r := rfl
theorem ca_get3 (a : Ca) : a.c[3]? = some (I a.n) := rfl
theorem ca_set3 (a : Ca) (x : Int) : a.c.set 3 (I x) = Ca.c { a with n := x } := rfl
theorem ca_aget3 (a : Ca) (r : List SV) : (a.c ++ r)[3]? = some (I a.n) := rfl
theorem ca_aset3 (a : Ca) (r : List SV) (x : Int) : (a.c ++ r).set 3 (I x) = Ca.c { a with n := x } ++ r := rfl
theorem ca_get4 (a : Ca) : a.c[4]? = some (I a.t) := rfl
theorem ca_set4 (a : Ca) (x : Int) : a.c.set 4 (I x) = Ca.c { a with t := x } := rfl
theorem ca_aget4 (a : Ca) (r : List SV) : (a.c ++ r)[4]? = some (I a.t) := rfl
theorem ca_aset4 (a : Ca) (r : List SV) (x : Int) : (a.c ++ r).set 4 (I x) = Ca.c { a with t := x } ++ r := rfl
theorem ca_get5 (a : Ca) : a.c[5]? = some (I a.p) := rfl
theorem ca_set5 (a : Ca) (x : Int) : a.c.set 5 (I x) = Ca.c { a with p := x } := rfl
theorem ca_aget5 (a : Ca) (r : List SV) : (a.c ++ r)[5]? = some (I a.p) := rfl
theorem ca_aset5 (a : Ca) (r : List SV) (x : Int) : (a.c ++ r).set 5 (I x) = Ca.c { a with p := x } ++ r := rfl
theorem ca_get6 (a : Ca) : a.c[6]? = some (I a.f) := rfl
theorem ca_set6 (a : Ca) (x : Int) : a.c.set 6 (I x) = Ca.c { a with f := x } := rfl
theorem ca_aget6 (a : Ca) (r : List SV) : (a.c ++ r)[6]? = some (I a.f) := rfl
theorem ca_aset6 (a : Ca) (r : List SV) (x : Int) : (a.c ++ r).set 6 (I x) = Ca.c { a with f := x } ++ r := rfl
theorem ca_get7 (a : Ca) : a.c[7]? = some (I a.b) := rfl
theorem ca_set7 (a : Ca) (x : Int) : a.c.set 7 (I x) = Ca.c { a with b := x } := rfl
theorem ca_aget7 (a : Ca) (r : List SV) : (a.c ++ r)[7]? = some (I a.b) := rfl
theorem ca_aset7 (a : Ca) (r : List SV) (x : Int) : (a.c ++ r).set 7 (I x) = Ca.c { a with b := x } ++ r := rfl
theorem ca_get8 (a : Ca) : a.c[8]? = some (I a.o) := rfl
theorem ca_set8 (a : Ca) (x : Int) : a.c.set 8 (I x) = Ca.c { a with o := x } := rfl
theorem ca_aget8 (a : Ca) (r : List SV) : (a.c ++ r)[8]? = some (I a.o) := rfl
theorem ca_aset8 (a : Ca) (r : List SV) (x : Int) : (a.c ++ r).set 8 (I x) = Ca.c { a with o := x } ++ r := rfl
def Ca.v (a : Ca) : List Value := [.int .i64 a.k, .int .i64 a.a, .int .i64 a.l, .int .i64 a.n, .int .i64 a.t, .int .i64 a.p, .int .i64 a.f, .int .i64 a.b, .int .i64 a.o]
theorem ca_rawL (a : Ca) : rawL a.c = some a.v := rfl
theorem ca_shape (a : Ca) : shapeL [.int .i64 0, .int .i64 0, .int .i64 0, .int .i64 0, .int .i64 0, .int .i64 0, .int .i64 0, .int .i64 0, .int .i64 0] a.v = true := rfl
theorem ca_eqL (a b : Ca) : eqL a.v b.v = decide (a = b) := by
  cases a; cases b; simp only [Ca.v, eqL, eqV, Bool.and_true, Ca.mk.injEq]; rw [Bool.eq_iff_iff]; simp
attribute [go_sem] ca_len ca_take ca_all ca_pers ca_fold ca_atake ca_get0 ca_set0 ca_aget0 ca_aset0 ca_get1 ca_set1 ca_aget1 ca_aset1 ca_get2 ca_set2 ca_aget2 ca_aset2 ca_get3 ca_set3 ca_aget3 ca_aset3 ca_get4 ca_set4 ca_aget4 ca_aset4 ca_get5 ca_set5 ca_aget5 ca_aset5 ca_get6 ca_set6 ca_aget6 ca_aset6 ca_get7 ca_set7 ca_aget7 ca_aset7 ca_get8 ca_set8 ca_aget8 ca_aset8 ca_rawL ca_shape ca_eqL

structure Ga where
  s : Int
  e : Int
  deriving DecidableEq
def Ga.c (a : Ga) : List SV := [I a.s, I a.e]
def Ga.zero : Ga := ⟨0, 0⟩
theorem ga_len (a : Ga) : a.c.length = 2 := rfl
theorem ga_take (a : Ga) : List.take 2 a.c = a.c := rfl
theorem ga_all (a b : Ga) : setAll a.c 0 b.c = b.c := rfl
theorem ga_pers (a : Ga) : a.c.all pers = true := rfl
theorem ga_atake (a : Ga) (r : List SV) : List.take 2 (a.c ++ r) = a.c := rfl
theorem ga_get0 (a : Ga) : a.c[0]? = some (I a.s) := rfl
theorem ga_set0 (a : Ga) (x : Int) : a.c.set 0 (I x) = Ga.c { a with s := x } := rfl
theorem ga_aget0 (a : Ga) (r : List SV) : (a.c ++ r)[0]? = some (I a.s) := rfl
theorem ga_aset0 (a : Ga) (r : List SV) (x : Int) : (a.c ++ r).set 0 (I x) = Ga.c { a with s := x } ++ r := rfl
theorem ga_get1 (a : Ga) : a.c[1]? = some (I a.e) := rfl
theorem ga_set1 (a : Ga) (x : Int) : a.c.set 1 (I x) = Ga.c { a with e := x } := rfl
theorem ga_aget1 (a : Ga) (r : List SV) : (a.c ++ r)[1]? = some (I a.e) := rfl
theorem ga_aset1 (a : Ga) (r : List SV) (x : Int) : (a.c ++ r).set 1 (I x) = Ga.c { a with e := x } ++ r := rfl
def Ga.v (a : Ga) : List Value := [.int .i64 a.s, .int .i64 a.e]
theorem ga_rawL (a : Ga) : rawL a.c = some a.v := rfl
theorem ga_shape (a : Ga) : shapeL [.int .i64 0, .int .i64 0] a.v = true := rfl
theorem ga_eqL (a b : Ga) : eqL a.v b.v = decide (a = b) := by
  cases a; cases b; simp only [Ga.v, eqL, eqV, Bool.and_true, Ga.mk.injEq]; rw [Bool.eq_iff_iff]; simp
attribute [go_sem] ga_len ga_take ga_all ga_pers ga_atake ga_get0 ga_set0 ga_aget0 ga_aset0 ga_get1 ga_set1 ga_aget1 ga_aset1 ga_rawL ga_shape ga_eqL

structure Pg where
  i : Bool
  p : Int
  sh : Bool
  b : Int
  o : Int
  deriving DecidableEq
def Pg.c (a : Pg) : List SV := [Bo a.i, I a.p, Bo a.sh, I a.b, I a.o]
def Pg.zero : Pg := ⟨false, 0, false, 0, 0⟩
theorem pg_len (a : Pg) : a.c.length = 5 := rfl
theorem pg_take (a : Pg) : List.take 5 a.c = a.c := rfl
theorem pg_all (a b : Pg) : setAll a.c 0 b.c = b.c := rfl
theorem pg_pers (a : Pg) : a.c.all pers = true := rfl
theorem pg_fold (i : Bool) (p : Int) (sh : Bool) (b : Int) (o : Int) : [SV.raw (.bool i), SV.raw (.int .i64 p), SV.raw (.bool sh), SV.raw (.int .i64 b), SV.raw (.int .i64 o)] = Pg.c ⟨i, p, sh, b, o⟩ := rfl
theorem pg_atake (a : Pg) (r : List SV) : List.take 5 (a.c ++ r) = a.c := rfl
theorem pg_get0 (a : Pg) : a.c[0]? = some (Bo a.i) := rfl
theorem pg_set0 (a : Pg) (x : Bool) : a.c.set 0 (Bo x) = Pg.c { a with i := x } := rfl
theorem pg_aget0 (a : Pg) (r : List SV) : (a.c ++ r)[0]? = some (Bo a.i) := rfl
theorem pg_aset0 (a : Pg) (r : List SV) (x : Bool) : (a.c ++ r).set 0 (Bo x) = Pg.c { a with i := x } ++ r := rfl
theorem pg_get1 (a : Pg) : a.c[1]? = some (I a.p) := rfl
theorem pg_set1 (a : Pg) (x : Int) : a.c.set 1 (I x) = Pg.c { a with p := x } := rfl
theorem pg_aget1 (a : Pg) (r : List SV) : (a.c ++ r)[1]? = some (I a.p) := rfl
theorem pg_aset1 (a : Pg) (r : List SV) (x : Int) : (a.c ++ r).set 1 (I x) = Pg.c { a with p := x } ++ r := rfl
theorem pg_get2 (a : Pg) : a.c[2]? = some (Bo a.sh) := rfl
theorem pg_set2 (a : Pg) (x : Bool) : a.c.set 2 (Bo x) = Pg.c { a with sh := x } := rfl
theorem pg_aget2 (a : Pg) (r : List SV) : (a.c ++ r)[2]? = some (Bo a.sh) := rfl
theorem pg_aset2 (a : Pg) (r : List SV) (x : Bool) : (a.c ++ r).set 2 (Bo x) = Pg.c { a with sh := x } ++ r := rfl
theorem pg_get3 (a : Pg) : a.c[3]? = some (I a.b) := rfl
theorem pg_set3 (a : Pg) (x : Int) : a.c.set 3 (I x) = Pg.c { a with b := x } := rfl
theorem pg_aget3 (a : Pg) (r : List SV) : (a.c ++ r)[3]? = some (I a.b) := rfl
theorem pg_aset3 (a : Pg) (r : List SV) (x : Int) : (a.c ++ r).set 3 (I x) = Pg.c { a with b := x } ++ r := rfl
theorem pg_get4 (a : Pg) : a.c[4]? = some (I a.o) := rfl
theorem pg_set4 (a : Pg) (x : Int) : a.c.set 4 (I x) = Pg.c { a with o := x } := rfl
theorem pg_aget4 (a : Pg) (r : List SV) : (a.c ++ r)[4]? = some (I a.o) := rfl
theorem pg_aset4 (a : Pg) (r : List SV) (x : Int) : (a.c ++ r).set 4 (I x) = Pg.c { a with o := x } ++ r := rfl
def Pg.v (a : Pg) : List Value := [.bool a.i, .int .i64 a.p, .bool a.sh, .int .i64 a.b, .int .i64 a.o]
theorem pg_rawL (a : Pg) : rawL a.c = some a.v := rfl
theorem pg_shape (a : Pg) : shapeL [.bool false, .int .i64 0, .bool false, .int .i64 0, .int .i64 0] a.v = true := rfl
theorem pg_eqL (a b : Pg) : eqL a.v b.v = decide (a = b) := by
  cases a; cases b; simp only [Pg.v, eqL, eqV, Bool.and_true, Pg.mk.injEq]; rw [Bool.eq_iff_iff]; simp
attribute [go_sem] pg_len pg_take pg_all pg_pers pg_fold pg_atake pg_get0 pg_set0 pg_aget0 pg_aset0 pg_get1 pg_set1 pg_aget1 pg_aset1 pg_get2 pg_set2 pg_aget2 pg_aset2 pg_get3 pg_set3 pg_aget3 pg_aset3 pg_get4 pg_set4 pg_aget4 pg_aset4 pg_rawL pg_shape pg_eqL

theorem c_at_of_ar (a : Ar) : List.take 4 (List.drop 2 a.c) = At.c ⟨a.p, a.sh, a.b, a.o⟩ := rfl
theorem c_at_of_pg (a : Pg) : List.take 4 (List.drop 1 a.c) = At.c ⟨a.p, a.sh, a.b, a.o⟩ := rfl
theorem ar_of_at (s e : Int) (t : At) : SV.raw (.int .i64 s) :: SV.raw (.int .i64 e) :: t.c = Ar.c ⟨s, e, t.p, t.sh, t.b, t.o⟩ := rfl
theorem pg_of_at (i : Bool) (t : At) : SV.raw (.bool i) :: t.c = Pg.c ⟨i, t.p, t.sh, t.b, t.o⟩ := rfl
attribute [go_sem] c_at_of_ar c_at_of_pg ar_of_at pg_of_at Nat.le_add_right List.length_append List.getElem?_drop

end Go.Abs
