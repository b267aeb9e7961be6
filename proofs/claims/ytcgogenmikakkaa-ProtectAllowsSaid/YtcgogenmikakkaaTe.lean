/-
  The types that the abstract heap knows in this program, and that what is said of them is so.
-/
import Derived.Test.YtcgogenmikakkaaS0
import Derived.Test.YtcgogenmikakkaaProg
namespace Go.Abs
set_option linter.unusedVariables false
set_option linter.unusedSimpArgs false
open Go.Proofs
set_option maxRecDepth 100000

def bigz0 : List Value := (List.replicate 512 [.bool false, .int .i64 0, .bool false, .int .i64 0, .int .i64 0]).flatten

def te : Nat → Option TI
  | 2 => some { size := 1, bytes := 8, kind := .int .i64, zero := [.int .i64 0], cmp := false }
  | 3 => some { size := 1, bytes := 8, kind := .int .i64, zero := [.int .i64 0], cmp := false }
  | 4 => some { size := 1, bytes := 1, kind := .bool, zero := [.bool false], cmp := false }
  | 5 => some { size := 1, bytes := 1, kind := .int .u8, zero := [.int .u8 0], cmp := false }
  | 22 => some { size := 1, bytes := 24, kind := .sli 40, zero := [.slice none 0 0], cmp := false }
  | 23 => some { size := 4, bytes := 4, kind := .arr 4 5, zero := [.int .u8 0, .int .u8 0, .int .u8 0, .int .u8 0], cmp := false }
  | 26 => some { size := 1, bytes := 8, kind := .int .i64, zero := [.int .i64 0], cmp := false }
  | 27 => some { size := 4, bytes := 32, kind := .str [(0, 1), (1, 1), (2, 1), (3, 1)], zero := [.int .i64 0, .bool false, .int .i64 0, .int .i64 0], cmp := true }
  | 28 => some { size := 4, bytes := 32, kind := .str [(0, 1), (1, 1), (2, 1), (3, 1)], zero := [.int .i64 0, .bool false, .int .i64 0, .int .i64 0], cmp := true }
  | 29 => some { size := 6, bytes := 48, kind := .str [(0, 1), (1, 1), (2, 4)], zero := [.int .i64 0, .int .i64 0, .int .i64 0, .bool false, .int .i64 0, .int .i64 0], cmp := true }
  | 30 => some { size := 6, bytes := 48, kind := .str [(0, 1), (1, 1), (2, 4)], zero := [.int .i64 0, .int .i64 0, .int .i64 0, .bool false, .int .i64 0, .int .i64 0], cmp := true }
  | 33 => some { size := 9, bytes := 72, kind := .str [(0, 1), (1, 1), (2, 1), (3, 1), (4, 1), (5, 1), (6, 1), (7, 1), (8, 1)], zero := [.int .i64 0, .int .i64 0, .int .i64 0, .int .i64 0, .int .i64 0, .int .i64 0, .int .i64 0, .int .i64 0, .int .i64 0], cmp := true }
  | 34 => some { size := 9, bytes := 72, kind := .str [(0, 1), (1, 1), (2, 1), (3, 1), (4, 1), (5, 1), (6, 1), (7, 1), (8, 1)], zero := [.int .i64 0, .int .i64 0, .int .i64 0, .int .i64 0, .int .i64 0, .int .i64 0, .int .i64 0, .int .i64 0, .int .i64 0], cmp := true }
  | 39 => some { size := 6, bytes := 48, kind := .str [(0, 1), (1, 1), (2, 1), (3, 1), (4, 1), (5, 1)], zero := [.int .i64 0, .int .i64 0, .int .i64 0, .bool false, .int .i64 0, .int .i64 0], cmp := true }
  | 40 => some { size := 6, bytes := 48, kind := .str [(0, 1), (1, 1), (2, 1), (3, 1), (4, 1), (5, 1)], zero := [.int .i64 0, .int .i64 0, .int .i64 0, .bool false, .int .i64 0, .int .i64 0], cmp := true }
  | 43 => some { size := 2, bytes := 16, kind := .arr 2 2, zero := [.int .i64 0, .int .i64 0], cmp := false }
  | 48 => some { size := 5, bytes := 40, kind := .str [(0, 1), (1, 4)], zero := [.bool false, .int .i64 0, .bool false, .int .i64 0, .int .i64 0], cmp := true }
  | 49 => some { size := 5, bytes := 40, kind := .str [(0, 1), (1, 4)], zero := [.bool false, .int .i64 0, .bool false, .int .i64 0, .int .i64 0], cmp := true }
  | 50 => some { size := 2560, bytes := 20480, kind := .arr 512 49, zero := bigz0, cmp := false }
  | 51 => some { size := 2560, bytes := 20480, kind := .arr 512 49, zero := bigz0, cmp := false }
  | 90 => some { size := 1, bytes := 24, kind := .sli 93, zero := [.slice none 0 0], cmp := false }
  | 92 => some { size := 2, bytes := 16, kind := .str [(0, 1), (1, 1)], zero := [.int .i64 0, .int .i64 0], cmp := true }
  | 93 => some { size := 2, bytes := 16, kind := .str [(0, 1), (1, 1)], zero := [.int .i64 0, .int .i64 0], cmp := true }
  | 102 => some { size := 1, bytes := 24, kind := .sli 22, zero := [.slice none 0 0], cmp := false }
  | 108 => some { size := 0, bytes := 0, kind := .arr 0 16, zero := [], cmp := false }
  | _ => none

@[go_sem] theorem te2 : te 2 = some { size := 1, bytes := 8, kind := .int .i64, zero := [.int .i64 0], cmp := false } := rfl
@[go_sem] theorem te3 : te 3 = some { size := 1, bytes := 8, kind := .int .i64, zero := [.int .i64 0], cmp := false } := rfl
@[go_sem] theorem te4 : te 4 = some { size := 1, bytes := 1, kind := .bool, zero := [.bool false], cmp := false } := rfl
@[go_sem] theorem te5 : te 5 = some { size := 1, bytes := 1, kind := .int .u8, zero := [.int .u8 0], cmp := false } := rfl
@[go_sem] theorem te22 : te 22 = some { size := 1, bytes := 24, kind := .sli 40, zero := [.slice none 0 0], cmp := false } := rfl
@[go_sem] theorem te23 : te 23 = some { size := 4, bytes := 4, kind := .arr 4 5, zero := [.int .u8 0, .int .u8 0, .int .u8 0, .int .u8 0], cmp := false } := rfl
@[go_sem] theorem te26 : te 26 = some { size := 1, bytes := 8, kind := .int .i64, zero := [.int .i64 0], cmp := false } := rfl
@[go_sem] theorem te27 : te 27 = some { size := 4, bytes := 32, kind := .str [(0, 1), (1, 1), (2, 1), (3, 1)], zero := [.int .i64 0, .bool false, .int .i64 0, .int .i64 0], cmp := true } := rfl
@[go_sem] theorem te28 : te 28 = some { size := 4, bytes := 32, kind := .str [(0, 1), (1, 1), (2, 1), (3, 1)], zero := [.int .i64 0, .bool false, .int .i64 0, .int .i64 0], cmp := true } := rfl
@[go_sem] theorem te29 : te 29 = some { size := 6, bytes := 48, kind := .str [(0, 1), (1, 1), (2, 4)], zero := [.int .i64 0, .int .i64 0, .int .i64 0, .bool false, .int .i64 0, .int .i64 0], cmp := true } := rfl
@[go_sem] theorem te30 : te 30 = some { size := 6, bytes := 48, kind := .str [(0, 1), (1, 1), (2, 4)], zero := [.int .i64 0, .int .i64 0, .int .i64 0, .bool false, .int .i64 0, .int .i64 0], cmp := true } := rfl
@[go_sem] theorem te33 : te 33 = some { size := 9, bytes := 72, kind := .str [(0, 1), (1, 1), (2, 1), (3, 1), (4, 1), (5, 1), (6, 1), (7, 1), (8, 1)], zero := [.int .i64 0, .int .i64 0, .int .i64 0, .int .i64 0, .int .i64 0, .int .i64 0, .int .i64 0, .int .i64 0, .int .i64 0], cmp := true } := rfl
@[go_sem] theorem te34 : te 34 = some { size := 9, bytes := 72, kind := .str [(0, 1), (1, 1), (2, 1), (3, 1), (4, 1), (5, 1), (6, 1), (7, 1), (8, 1)], zero := [.int .i64 0, .int .i64 0, .int .i64 0, .int .i64 0, .int .i64 0, .int .i64 0, .int .i64 0, .int .i64 0, .int .i64 0], cmp := true } := rfl
@[go_sem] theorem te39 : te 39 = some { size := 6, bytes := 48, kind := .str [(0, 1), (1, 1), (2, 1), (3, 1), (4, 1), (5, 1)], zero := [.int .i64 0, .int .i64 0, .int .i64 0, .bool false, .int .i64 0, .int .i64 0], cmp := true } := rfl
@[go_sem] theorem te40 : te 40 = some { size := 6, bytes := 48, kind := .str [(0, 1), (1, 1), (2, 1), (3, 1), (4, 1), (5, 1)], zero := [.int .i64 0, .int .i64 0, .int .i64 0, .bool false, .int .i64 0, .int .i64 0], cmp := true } := rfl
@[go_sem] theorem te43 : te 43 = some { size := 2, bytes := 16, kind := .arr 2 2, zero := [.int .i64 0, .int .i64 0], cmp := false } := rfl
@[go_sem] theorem te48 : te 48 = some { size := 5, bytes := 40, kind := .str [(0, 1), (1, 4)], zero := [.bool false, .int .i64 0, .bool false, .int .i64 0, .int .i64 0], cmp := true } := rfl
@[go_sem] theorem te49 : te 49 = some { size := 5, bytes := 40, kind := .str [(0, 1), (1, 4)], zero := [.bool false, .int .i64 0, .bool false, .int .i64 0, .int .i64 0], cmp := true } := rfl
@[go_sem] theorem te50 : te 50 = some { size := 2560, bytes := 20480, kind := .arr 512 49, zero := bigz0, cmp := false } := rfl
@[go_sem] theorem te51 : te 51 = some { size := 2560, bytes := 20480, kind := .arr 512 49, zero := bigz0, cmp := false } := rfl
@[go_sem] theorem te90 : te 90 = some { size := 1, bytes := 24, kind := .sli 93, zero := [.slice none 0 0], cmp := false } := rfl
@[go_sem] theorem te92 : te 92 = some { size := 2, bytes := 16, kind := .str [(0, 1), (1, 1)], zero := [.int .i64 0, .int .i64 0], cmp := true } := rfl
@[go_sem] theorem te93 : te 93 = some { size := 2, bytes := 16, kind := .str [(0, 1), (1, 1)], zero := [.int .i64 0, .int .i64 0], cmp := true } := rfl
@[go_sem] theorem te102 : te 102 = some { size := 1, bytes := 24, kind := .sli 22, zero := [.slice none 0 0], cmp := false } := rfl
@[go_sem] theorem te108 : te 108 = some { size := 0, bytes := 0, kind := .arr 0 16, zero := [], cmp := false } := rfl

theorem eqt27a (d : Nat) (w : World) (x0 y0 : Int) (x1 y1 : Bool) (x2 y2 : Int) (x3 y3 : Int) : (Op.equalIn (d + 2) 27 (.agg #[.int .i64 x0, .bool x1, .int .i64 x2, .int .i64 x3]) (.agg #[.int .i64 y0, .bool y1, .int .i64 y2, .int .i64 y3])).run Try.prog w = .ok ((x0 == y0) && ( (x1 == y1) && ( (x2 == y2) && ( (x3 == y3) && ( true))))) w := by
  refine eqA_of Try.underlying27 (by kernel_rfl) ?_
  refine eqf_cons (by rfl) (run_part_int Try.underlying3 rfl) (run_part_int Try.underlying3 rfl) (run_equalIn_int w _ _ _ _ _ _ Try.underlying3) ?_
  refine eqf_cons (by rfl) (run_part_bool Try.underlying4 rfl) (run_part_bool Try.underlying4 rfl) (run_equalIn_bool' w _ _ _ _ Try.underlying4) ?_
  refine eqf_cons (by rfl) (run_part_int Try.underlying3 rfl) (run_part_int Try.underlying3 rfl) (run_equalIn_int w _ _ _ _ _ _ Try.underlying3) ?_
  refine eqf_cons (by rfl) (run_part_int Try.underlying2 rfl) (run_part_int Try.underlying2 rfl) (run_equalIn_int w _ _ _ _ _ _ Try.underlying2) ?_
  exact eqf_nil
theorem eqt27 (d : Nat) (w : World) (x0 y0 : Int) (x1 y1 : Bool) (x2 y2 : Int) (x3 y3 : Int) : (Op.equalIn (d + 2) 27 (.agg #[.int .i64 x0, .bool x1, .int .i64 x2, .int .i64 x3]) (.agg #[.int .i64 y0, .bool y1, .int .i64 y2, .int .i64 y3])).run Try.prog w = .ok (eqL [.int .i64 x0, .bool x1, .int .i64 x2, .int .i64 x3] [.int .i64 y0, .bool y1, .int .i64 y2, .int .i64 y3]) w := by
  rw [eqt27a]
  simp only [eqL, eqV, Bool.and_assoc, Bool.and_true]

theorem eqt28a (d : Nat) (w : World) (x0 y0 : Int) (x1 y1 : Bool) (x2 y2 : Int) (x3 y3 : Int) : (Op.equalIn (d + 2) 28 (.agg #[.int .i64 x0, .bool x1, .int .i64 x2, .int .i64 x3]) (.agg #[.int .i64 y0, .bool y1, .int .i64 y2, .int .i64 y3])).run Try.prog w = .ok ((x0 == y0) && ( (x1 == y1) && ( (x2 == y2) && ( (x3 == y3) && ( true))))) w := by
  refine eqA_of Try.underlying28 (by kernel_rfl) ?_
  refine eqf_cons (by rfl) (run_part_int Try.underlying3 rfl) (run_part_int Try.underlying3 rfl) (run_equalIn_int w _ _ _ _ _ _ Try.underlying3) ?_
  refine eqf_cons (by rfl) (run_part_bool Try.underlying4 rfl) (run_part_bool Try.underlying4 rfl) (run_equalIn_bool' w _ _ _ _ Try.underlying4) ?_
  refine eqf_cons (by rfl) (run_part_int Try.underlying3 rfl) (run_part_int Try.underlying3 rfl) (run_equalIn_int w _ _ _ _ _ _ Try.underlying3) ?_
  refine eqf_cons (by rfl) (run_part_int Try.underlying2 rfl) (run_part_int Try.underlying2 rfl) (run_equalIn_int w _ _ _ _ _ _ Try.underlying2) ?_
  exact eqf_nil
theorem eqt28 (d : Nat) (w : World) (x0 y0 : Int) (x1 y1 : Bool) (x2 y2 : Int) (x3 y3 : Int) : (Op.equalIn (d + 2) 28 (.agg #[.int .i64 x0, .bool x1, .int .i64 x2, .int .i64 x3]) (.agg #[.int .i64 y0, .bool y1, .int .i64 y2, .int .i64 y3])).run Try.prog w = .ok (eqL [.int .i64 x0, .bool x1, .int .i64 x2, .int .i64 x3] [.int .i64 y0, .bool y1, .int .i64 y2, .int .i64 y3]) w := by
  rw [eqt28a]
  simp only [eqL, eqV, Bool.and_assoc, Bool.and_true]

theorem eqt29a (d : Nat) (w : World) (x0 y0 : Int) (x1 y1 : Int) (x2 y2 : Int) (x3 y3 : Bool) (x4 y4 : Int) (x5 y5 : Int) : (Op.equalIn (d + 3) 29 (.agg #[.int .i64 x0, .int .i64 x1, .int .i64 x2, .bool x3, .int .i64 x4, .int .i64 x5]) (.agg #[.int .i64 y0, .int .i64 y1, .int .i64 y2, .bool y3, .int .i64 y4, .int .i64 y5])).run Try.prog w = .ok ((x0 == y0) && ( (x1 == y1) && ( (eqL [.int .i64 x2, .bool x3, .int .i64 x4, .int .i64 x5] [.int .i64 y2, .bool y3, .int .i64 y4, .int .i64 y5]) && ( true)))) w := by
  refine eqA_of Try.underlying29 (by kernel_rfl) ?_
  refine eqf_cons (by rfl) (run_part_int Try.underlying26 rfl) (run_part_int Try.underlying26 rfl) (run_equalIn_int w _ _ _ _ _ _ Try.underlying26) ?_
  refine eqf_cons (by rfl) (run_part_int Try.underlying2 rfl) (run_part_int Try.underlying2 rfl) (run_equalIn_int w _ _ _ _ _ _ Try.underlying2) ?_
  refine eqf_cons (by rfl) (run_part_agg Try.underlying28 (n := 4) (by kernel_rfl) (by decide)) (run_part_agg Try.underlying28 (n := 4) (by kernel_rfl) (by decide)) (eqt28 (d + 0) w x2 y2 x3 y3 x4 y4 x5 y5) ?_
  exact eqf_nil
theorem eqt29 (d : Nat) (w : World) (x0 y0 : Int) (x1 y1 : Int) (x2 y2 : Int) (x3 y3 : Bool) (x4 y4 : Int) (x5 y5 : Int) : (Op.equalIn (d + 3) 29 (.agg #[.int .i64 x0, .int .i64 x1, .int .i64 x2, .bool x3, .int .i64 x4, .int .i64 x5]) (.agg #[.int .i64 y0, .int .i64 y1, .int .i64 y2, .bool y3, .int .i64 y4, .int .i64 y5])).run Try.prog w = .ok (eqL [.int .i64 x0, .int .i64 x1, .int .i64 x2, .bool x3, .int .i64 x4, .int .i64 x5] [.int .i64 y0, .int .i64 y1, .int .i64 y2, .bool y3, .int .i64 y4, .int .i64 y5]) w := by
  rw [eqt29a]
  simp only [eqL, eqV, Bool.and_assoc, Bool.and_true]

theorem eqt30a (d : Nat) (w : World) (x0 y0 : Int) (x1 y1 : Int) (x2 y2 : Int) (x3 y3 : Bool) (x4 y4 : Int) (x5 y5 : Int) : (Op.equalIn (d + 3) 30 (.agg #[.int .i64 x0, .int .i64 x1, .int .i64 x2, .bool x3, .int .i64 x4, .int .i64 x5]) (.agg #[.int .i64 y0, .int .i64 y1, .int .i64 y2, .bool y3, .int .i64 y4, .int .i64 y5])).run Try.prog w = .ok ((x0 == y0) && ( (x1 == y1) && ( (eqL [.int .i64 x2, .bool x3, .int .i64 x4, .int .i64 x5] [.int .i64 y2, .bool y3, .int .i64 y4, .int .i64 y5]) && ( true)))) w := by
  refine eqA_of Try.underlying30 (by kernel_rfl) ?_
  refine eqf_cons (by rfl) (run_part_int Try.underlying26 rfl) (run_part_int Try.underlying26 rfl) (run_equalIn_int w _ _ _ _ _ _ Try.underlying26) ?_
  refine eqf_cons (by rfl) (run_part_int Try.underlying2 rfl) (run_part_int Try.underlying2 rfl) (run_equalIn_int w _ _ _ _ _ _ Try.underlying2) ?_
  refine eqf_cons (by rfl) (run_part_agg Try.underlying28 (n := 4) (by kernel_rfl) (by decide)) (run_part_agg Try.underlying28 (n := 4) (by kernel_rfl) (by decide)) (eqt28 (d + 0) w x2 y2 x3 y3 x4 y4 x5 y5) ?_
  exact eqf_nil
theorem eqt30 (d : Nat) (w : World) (x0 y0 : Int) (x1 y1 : Int) (x2 y2 : Int) (x3 y3 : Bool) (x4 y4 : Int) (x5 y5 : Int) : (Op.equalIn (d + 3) 30 (.agg #[.int .i64 x0, .int .i64 x1, .int .i64 x2, .bool x3, .int .i64 x4, .int .i64 x5]) (.agg #[.int .i64 y0, .int .i64 y1, .int .i64 y2, .bool y3, .int .i64 y4, .int .i64 y5])).run Try.prog w = .ok (eqL [.int .i64 x0, .int .i64 x1, .int .i64 x2, .bool x3, .int .i64 x4, .int .i64 x5] [.int .i64 y0, .int .i64 y1, .int .i64 y2, .bool y3, .int .i64 y4, .int .i64 y5]) w := by
  rw [eqt30a]
  simp only [eqL, eqV, Bool.and_assoc, Bool.and_true]

theorem eqt33a (d : Nat) (w : World) (x0 y0 : Int) (x1 y1 : Int) (x2 y2 : Int) (x3 y3 : Int) (x4 y4 : Int) (x5 y5 : Int) (x6 y6 : Int) (x7 y7 : Int) (x8 y8 : Int) : (Op.equalIn (d + 2) 33 (.agg #[.int .i64 x0, .int .i64 x1, .int .i64 x2, .int .i64 x3, .int .i64 x4, .int .i64 x5, .int .i64 x6, .int .i64 x7, .int .i64 x8]) (.agg #[.int .i64 y0, .int .i64 y1, .int .i64 y2, .int .i64 y3, .int .i64 y4, .int .i64 y5, .int .i64 y6, .int .i64 y7, .int .i64 y8])).run Try.prog w = .ok ((x0 == y0) && ( (x1 == y1) && ( (x2 == y2) && ( (x3 == y3) && ( (x4 == y4) && ( (x5 == y5) && ( (x6 == y6) && ( (x7 == y7) && ( (x8 == y8) && ( true)))))))))) w := by
  refine eqA_of Try.underlying33 (by kernel_rfl) ?_
  refine eqf_cons (by rfl) (run_part_int Try.underlying3 rfl) (run_part_int Try.underlying3 rfl) (run_equalIn_int w _ _ _ _ _ _ Try.underlying3) ?_
  refine eqf_cons (by rfl) (run_part_int Try.underlying2 rfl) (run_part_int Try.underlying2 rfl) (run_equalIn_int w _ _ _ _ _ _ Try.underlying2) ?_
  refine eqf_cons (by rfl) (run_part_int Try.underlying2 rfl) (run_part_int Try.underlying2 rfl) (run_equalIn_int w _ _ _ _ _ _ Try.underlying2) ?_
  refine eqf_cons (by rfl) (run_part_int Try.underlying2 rfl) (run_part_int Try.underlying2 rfl) (run_equalIn_int w _ _ _ _ _ _ Try.underlying2) ?_
  refine eqf_cons (by rfl) (run_part_int Try.underlying2 rfl) (run_part_int Try.underlying2 rfl) (run_equalIn_int w _ _ _ _ _ _ Try.underlying2) ?_
  refine eqf_cons (by rfl) (run_part_int Try.underlying3 rfl) (run_part_int Try.underlying3 rfl) (run_equalIn_int w _ _ _ _ _ _ Try.underlying3) ?_
  refine eqf_cons (by rfl) (run_part_int Try.underlying3 rfl) (run_part_int Try.underlying3 rfl) (run_equalIn_int w _ _ _ _ _ _ Try.underlying3) ?_
  refine eqf_cons (by rfl) (run_part_int Try.underlying3 rfl) (run_part_int Try.underlying3 rfl) (run_equalIn_int w _ _ _ _ _ _ Try.underlying3) ?_
  refine eqf_cons (by rfl) (run_part_int Try.underlying2 rfl) (run_part_int Try.underlying2 rfl) (run_equalIn_int w _ _ _ _ _ _ Try.underlying2) ?_
  exact eqf_nil
theorem eqt33 (d : Nat) (w : World) (x0 y0 : Int) (x1 y1 : Int) (x2 y2 : Int) (x3 y3 : Int) (x4 y4 : Int) (x5 y5 : Int) (x6 y6 : Int) (x7 y7 : Int) (x8 y8 : Int) : (Op.equalIn (d + 2) 33 (.agg #[.int .i64 x0, .int .i64 x1, .int .i64 x2, .int .i64 x3, .int .i64 x4, .int .i64 x5, .int .i64 x6, .int .i64 x7, .int .i64 x8]) (.agg #[.int .i64 y0, .int .i64 y1, .int .i64 y2, .int .i64 y3, .int .i64 y4, .int .i64 y5, .int .i64 y6, .int .i64 y7, .int .i64 y8])).run Try.prog w = .ok (eqL [.int .i64 x0, .int .i64 x1, .int .i64 x2, .int .i64 x3, .int .i64 x4, .int .i64 x5, .int .i64 x6, .int .i64 x7, .int .i64 x8] [.int .i64 y0, .int .i64 y1, .int .i64 y2, .int .i64 y3, .int .i64 y4, .int .i64 y5, .int .i64 y6, .int .i64 y7, .int .i64 y8]) w := by
  rw [eqt33a]
  simp only [eqL, eqV, Bool.and_assoc, Bool.and_true]

theorem eqt34a (d : Nat) (w : World) (x0 y0 : Int) (x1 y1 : Int) (x2 y2 : Int) (x3 y3 : Int) (x4 y4 : Int) (x5 y5 : Int) (x6 y6 : Int) (x7 y7 : Int) (x8 y8 : Int) : (Op.equalIn (d + 2) 34 (.agg #[.int .i64 x0, .int .i64 x1, .int .i64 x2, .int .i64 x3, .int .i64 x4, .int .i64 x5, .int .i64 x6, .int .i64 x7, .int .i64 x8]) (.agg #[.int .i64 y0, .int .i64 y1, .int .i64 y2, .int .i64 y3, .int .i64 y4, .int .i64 y5, .int .i64 y6, .int .i64 y7, .int .i64 y8])).run Try.prog w = .ok ((x0 == y0) && ( (x1 == y1) && ( (x2 == y2) && ( (x3 == y3) && ( (x4 == y4) && ( (x5 == y5) && ( (x6 == y6) && ( (x7 == y7) && ( (x8 == y8) && ( true)))))))))) w := by
  refine eqA_of Try.underlying34 (by kernel_rfl) ?_
  refine eqf_cons (by rfl) (run_part_int Try.underlying3 rfl) (run_part_int Try.underlying3 rfl) (run_equalIn_int w _ _ _ _ _ _ Try.underlying3) ?_
  refine eqf_cons (by rfl) (run_part_int Try.underlying2 rfl) (run_part_int Try.underlying2 rfl) (run_equalIn_int w _ _ _ _ _ _ Try.underlying2) ?_
  refine eqf_cons (by rfl) (run_part_int Try.underlying2 rfl) (run_part_int Try.underlying2 rfl) (run_equalIn_int w _ _ _ _ _ _ Try.underlying2) ?_
  refine eqf_cons (by rfl) (run_part_int Try.underlying2 rfl) (run_part_int Try.underlying2 rfl) (run_equalIn_int w _ _ _ _ _ _ Try.underlying2) ?_
  refine eqf_cons (by rfl) (run_part_int Try.underlying2 rfl) (run_part_int Try.underlying2 rfl) (run_equalIn_int w _ _ _ _ _ _ Try.underlying2) ?_
  refine eqf_cons (by rfl) (run_part_int Try.underlying3 rfl) (run_part_int Try.underlying3 rfl) (run_equalIn_int w _ _ _ _ _ _ Try.underlying3) ?_
  refine eqf_cons (by rfl) (run_part_int Try.underlying3 rfl) (run_part_int Try.underlying3 rfl) (run_equalIn_int w _ _ _ _ _ _ Try.underlying3) ?_
  refine eqf_cons (by rfl) (run_part_int Try.underlying3 rfl) (run_part_int Try.underlying3 rfl) (run_equalIn_int w _ _ _ _ _ _ Try.underlying3) ?_
  refine eqf_cons (by rfl) (run_part_int Try.underlying2 rfl) (run_part_int Try.underlying2 rfl) (run_equalIn_int w _ _ _ _ _ _ Try.underlying2) ?_
  exact eqf_nil
theorem eqt34 (d : Nat) (w : World) (x0 y0 : Int) (x1 y1 : Int) (x2 y2 : Int) (x3 y3 : Int) (x4 y4 : Int) (x5 y5 : Int) (x6 y6 : Int) (x7 y7 : Int) (x8 y8 : Int) : (Op.equalIn (d + 2) 34 (.agg #[.int .i64 x0, .int .i64 x1, .int .i64 x2, .int .i64 x3, .int .i64 x4, .int .i64 x5, .int .i64 x6, .int .i64 x7, .int .i64 x8]) (.agg #[.int .i64 y0, .int .i64 y1, .int .i64 y2, .int .i64 y3, .int .i64 y4, .int .i64 y5, .int .i64 y6, .int .i64 y7, .int .i64 y8])).run Try.prog w = .ok (eqL [.int .i64 x0, .int .i64 x1, .int .i64 x2, .int .i64 x3, .int .i64 x4, .int .i64 x5, .int .i64 x6, .int .i64 x7, .int .i64 x8] [.int .i64 y0, .int .i64 y1, .int .i64 y2, .int .i64 y3, .int .i64 y4, .int .i64 y5, .int .i64 y6, .int .i64 y7, .int .i64 y8]) w := by
  rw [eqt34a]
  simp only [eqL, eqV, Bool.and_assoc, Bool.and_true]

theorem eqt39a (d : Nat) (w : World) (x0 y0 : Int) (x1 y1 : Int) (x2 y2 : Int) (x3 y3 : Bool) (x4 y4 : Int) (x5 y5 : Int) : (Op.equalIn (d + 2) 39 (.agg #[.int .i64 x0, .int .i64 x1, .int .i64 x2, .bool x3, .int .i64 x4, .int .i64 x5]) (.agg #[.int .i64 y0, .int .i64 y1, .int .i64 y2, .bool y3, .int .i64 y4, .int .i64 y5])).run Try.prog w = .ok ((x0 == y0) && ( (x1 == y1) && ( (x2 == y2) && ( (x3 == y3) && ( (x4 == y4) && ( (x5 == y5) && ( true))))))) w := by
  refine eqA_of Try.underlying39 (by kernel_rfl) ?_
  refine eqf_cons (by rfl) (run_part_int Try.underlying2 rfl) (run_part_int Try.underlying2 rfl) (run_equalIn_int w _ _ _ _ _ _ Try.underlying2) ?_
  refine eqf_cons (by rfl) (run_part_int Try.underlying2 rfl) (run_part_int Try.underlying2 rfl) (run_equalIn_int w _ _ _ _ _ _ Try.underlying2) ?_
  refine eqf_cons (by rfl) (run_part_int Try.underlying3 rfl) (run_part_int Try.underlying3 rfl) (run_equalIn_int w _ _ _ _ _ _ Try.underlying3) ?_
  refine eqf_cons (by rfl) (run_part_bool Try.underlying4 rfl) (run_part_bool Try.underlying4 rfl) (run_equalIn_bool' w _ _ _ _ Try.underlying4) ?_
  refine eqf_cons (by rfl) (run_part_int Try.underlying3 rfl) (run_part_int Try.underlying3 rfl) (run_equalIn_int w _ _ _ _ _ _ Try.underlying3) ?_
  refine eqf_cons (by rfl) (run_part_int Try.underlying2 rfl) (run_part_int Try.underlying2 rfl) (run_equalIn_int w _ _ _ _ _ _ Try.underlying2) ?_
  exact eqf_nil
theorem eqt39 (d : Nat) (w : World) (x0 y0 : Int) (x1 y1 : Int) (x2 y2 : Int) (x3 y3 : Bool) (x4 y4 : Int) (x5 y5 : Int) : (Op.equalIn (d + 2) 39 (.agg #[.int .i64 x0, .int .i64 x1, .int .i64 x2, .bool x3, .int .i64 x4, .int .i64 x5]) (.agg #[.int .i64 y0, .int .i64 y1, .int .i64 y2, .bool y3, .int .i64 y4, .int .i64 y5])).run Try.prog w = .ok (eqL [.int .i64 x0, .int .i64 x1, .int .i64 x2, .bool x3, .int .i64 x4, .int .i64 x5] [.int .i64 y0, .int .i64 y1, .int .i64 y2, .bool y3, .int .i64 y4, .int .i64 y5]) w := by
  rw [eqt39a]
  simp only [eqL, eqV, Bool.and_assoc, Bool.and_true]

theorem eqt40a (d : Nat) (w : World) (x0 y0 : Int) (x1 y1 : Int) (x2 y2 : Int) (x3 y3 : Bool) (x4 y4 : Int) (x5 y5 : Int) : (Op.equalIn (d + 2) 40 (.agg #[.int .i64 x0, .int .i64 x1, .int .i64 x2, .bool x3, .int .i64 x4, .int .i64 x5]) (.agg #[.int .i64 y0, .int .i64 y1, .int .i64 y2, .bool y3, .int .i64 y4, .int .i64 y5])).run Try.prog w = .ok ((x0 == y0) && ( (x1 == y1) && ( (x2 == y2) && ( (x3 == y3) && ( (x4 == y4) && ( (x5 == y5) && ( true))))))) w := by
  refine eqA_of Try.underlying40 (by kernel_rfl) ?_
  refine eqf_cons (by rfl) (run_part_int Try.underlying2 rfl) (run_part_int Try.underlying2 rfl) (run_equalIn_int w _ _ _ _ _ _ Try.underlying2) ?_
  refine eqf_cons (by rfl) (run_part_int Try.underlying2 rfl) (run_part_int Try.underlying2 rfl) (run_equalIn_int w _ _ _ _ _ _ Try.underlying2) ?_
  refine eqf_cons (by rfl) (run_part_int Try.underlying3 rfl) (run_part_int Try.underlying3 rfl) (run_equalIn_int w _ _ _ _ _ _ Try.underlying3) ?_
  refine eqf_cons (by rfl) (run_part_bool Try.underlying4 rfl) (run_part_bool Try.underlying4 rfl) (run_equalIn_bool' w _ _ _ _ Try.underlying4) ?_
  refine eqf_cons (by rfl) (run_part_int Try.underlying3 rfl) (run_part_int Try.underlying3 rfl) (run_equalIn_int w _ _ _ _ _ _ Try.underlying3) ?_
  refine eqf_cons (by rfl) (run_part_int Try.underlying2 rfl) (run_part_int Try.underlying2 rfl) (run_equalIn_int w _ _ _ _ _ _ Try.underlying2) ?_
  exact eqf_nil
theorem eqt40 (d : Nat) (w : World) (x0 y0 : Int) (x1 y1 : Int) (x2 y2 : Int) (x3 y3 : Bool) (x4 y4 : Int) (x5 y5 : Int) : (Op.equalIn (d + 2) 40 (.agg #[.int .i64 x0, .int .i64 x1, .int .i64 x2, .bool x3, .int .i64 x4, .int .i64 x5]) (.agg #[.int .i64 y0, .int .i64 y1, .int .i64 y2, .bool y3, .int .i64 y4, .int .i64 y5])).run Try.prog w = .ok (eqL [.int .i64 x0, .int .i64 x1, .int .i64 x2, .bool x3, .int .i64 x4, .int .i64 x5] [.int .i64 y0, .int .i64 y1, .int .i64 y2, .bool y3, .int .i64 y4, .int .i64 y5]) w := by
  rw [eqt40a]
  simp only [eqL, eqV, Bool.and_assoc, Bool.and_true]

theorem eqt48a (d : Nat) (w : World) (x0 y0 : Bool) (x1 y1 : Int) (x2 y2 : Bool) (x3 y3 : Int) (x4 y4 : Int) : (Op.equalIn (d + 3) 48 (.agg #[.bool x0, .int .i64 x1, .bool x2, .int .i64 x3, .int .i64 x4]) (.agg #[.bool y0, .int .i64 y1, .bool y2, .int .i64 y3, .int .i64 y4])).run Try.prog w = .ok ((x0 == y0) && ( (eqL [.int .i64 x1, .bool x2, .int .i64 x3, .int .i64 x4] [.int .i64 y1, .bool y2, .int .i64 y3, .int .i64 y4]) && ( true))) w := by
  refine eqA_of Try.underlying48 (by kernel_rfl) ?_
  refine eqf_cons (by rfl) (run_part_bool Try.underlying4 rfl) (run_part_bool Try.underlying4 rfl) (run_equalIn_bool' w _ _ _ _ Try.underlying4) ?_
  refine eqf_cons (by rfl) (run_part_agg Try.underlying28 (n := 4) (by kernel_rfl) (by decide)) (run_part_agg Try.underlying28 (n := 4) (by kernel_rfl) (by decide)) (eqt28 (d + 0) w x1 y1 x2 y2 x3 y3 x4 y4) ?_
  exact eqf_nil
theorem eqt48 (d : Nat) (w : World) (x0 y0 : Bool) (x1 y1 : Int) (x2 y2 : Bool) (x3 y3 : Int) (x4 y4 : Int) : (Op.equalIn (d + 3) 48 (.agg #[.bool x0, .int .i64 x1, .bool x2, .int .i64 x3, .int .i64 x4]) (.agg #[.bool y0, .int .i64 y1, .bool y2, .int .i64 y3, .int .i64 y4])).run Try.prog w = .ok (eqL [.bool x0, .int .i64 x1, .bool x2, .int .i64 x3, .int .i64 x4] [.bool y0, .int .i64 y1, .bool y2, .int .i64 y3, .int .i64 y4]) w := by
  rw [eqt48a]
  simp only [eqL, eqV, Bool.and_assoc, Bool.and_true]

theorem eqt49a (d : Nat) (w : World) (x0 y0 : Bool) (x1 y1 : Int) (x2 y2 : Bool) (x3 y3 : Int) (x4 y4 : Int) : (Op.equalIn (d + 3) 49 (.agg #[.bool x0, .int .i64 x1, .bool x2, .int .i64 x3, .int .i64 x4]) (.agg #[.bool y0, .int .i64 y1, .bool y2, .int .i64 y3, .int .i64 y4])).run Try.prog w = .ok ((x0 == y0) && ( (eqL [.int .i64 x1, .bool x2, .int .i64 x3, .int .i64 x4] [.int .i64 y1, .bool y2, .int .i64 y3, .int .i64 y4]) && ( true))) w := by
  refine eqA_of Try.underlying49 (by kernel_rfl) ?_
  refine eqf_cons (by rfl) (run_part_bool Try.underlying4 rfl) (run_part_bool Try.underlying4 rfl) (run_equalIn_bool' w _ _ _ _ Try.underlying4) ?_
  refine eqf_cons (by rfl) (run_part_agg Try.underlying28 (n := 4) (by kernel_rfl) (by decide)) (run_part_agg Try.underlying28 (n := 4) (by kernel_rfl) (by decide)) (eqt28 (d + 0) w x1 y1 x2 y2 x3 y3 x4 y4) ?_
  exact eqf_nil
theorem eqt49 (d : Nat) (w : World) (x0 y0 : Bool) (x1 y1 : Int) (x2 y2 : Bool) (x3 y3 : Int) (x4 y4 : Int) : (Op.equalIn (d + 3) 49 (.agg #[.bool x0, .int .i64 x1, .bool x2, .int .i64 x3, .int .i64 x4]) (.agg #[.bool y0, .int .i64 y1, .bool y2, .int .i64 y3, .int .i64 y4])).run Try.prog w = .ok (eqL [.bool x0, .int .i64 x1, .bool x2, .int .i64 x3, .int .i64 x4] [.bool y0, .int .i64 y1, .bool y2, .int .i64 y3, .int .i64 y4]) w := by
  rw [eqt49a]
  simp only [eqL, eqV, Bool.and_assoc, Bool.and_true]

theorem eqt92a (d : Nat) (w : World) (x0 y0 : Int) (x1 y1 : Int) : (Op.equalIn (d + 2) 92 (.agg #[.int .i64 x0, .int .i64 x1]) (.agg #[.int .i64 y0, .int .i64 y1])).run Try.prog w = .ok ((x0 == y0) && ( (x1 == y1) && ( true))) w := by
  refine eqA_of Try.underlying92 (by kernel_rfl) ?_
  refine eqf_cons (by rfl) (run_part_int Try.underlying2 rfl) (run_part_int Try.underlying2 rfl) (run_equalIn_int w _ _ _ _ _ _ Try.underlying2) ?_
  refine eqf_cons (by rfl) (run_part_int Try.underlying2 rfl) (run_part_int Try.underlying2 rfl) (run_equalIn_int w _ _ _ _ _ _ Try.underlying2) ?_
  exact eqf_nil
theorem eqt92 (d : Nat) (w : World) (x0 y0 : Int) (x1 y1 : Int) : (Op.equalIn (d + 2) 92 (.agg #[.int .i64 x0, .int .i64 x1]) (.agg #[.int .i64 y0, .int .i64 y1])).run Try.prog w = .ok (eqL [.int .i64 x0, .int .i64 x1] [.int .i64 y0, .int .i64 y1]) w := by
  rw [eqt92a]
  simp only [eqL, eqV, Bool.and_assoc, Bool.and_true]

theorem eqt93a (d : Nat) (w : World) (x0 y0 : Int) (x1 y1 : Int) : (Op.equalIn (d + 2) 93 (.agg #[.int .i64 x0, .int .i64 x1]) (.agg #[.int .i64 y0, .int .i64 y1])).run Try.prog w = .ok ((x0 == y0) && ( (x1 == y1) && ( true))) w := by
  refine eqA_of Try.underlying93 (by kernel_rfl) ?_
  refine eqf_cons (by rfl) (run_part_int Try.underlying2 rfl) (run_part_int Try.underlying2 rfl) (run_equalIn_int w _ _ _ _ _ _ Try.underlying2) ?_
  refine eqf_cons (by rfl) (run_part_int Try.underlying2 rfl) (run_part_int Try.underlying2 rfl) (run_equalIn_int w _ _ _ _ _ _ Try.underlying2) ?_
  exact eqf_nil
theorem eqt93 (d : Nat) (w : World) (x0 y0 : Int) (x1 y1 : Int) : (Op.equalIn (d + 2) 93 (.agg #[.int .i64 x0, .int .i64 x1]) (.agg #[.int .i64 y0, .int .i64 y1])).run Try.prog w = .ok (eqL [.int .i64 x0, .int .i64 x1] [.int .i64 y0, .int .i64 y1]) w := by
  rw [eqt93a]
  simp only [eqL, eqV, Bool.and_assoc, Bool.and_true]

theorem tiok2 : TIok Try.prog 2 { size := 1, bytes := 8, kind := .int .i64, zero := [.int .i64 0], cmp := false } where
  info := ⟨Try.t2, by kernel_rfl, by kernel_rfl, by kernel_rfl, (.int .i64 0), by kernel_rfl, by kernel_rfl⟩
  kind := Try.underlying2
  zsc := List.all_eq_true.1 (by kernel_rfl)
  zsz := by kernel_rfl
  cmp := fun h => by cases h

theorem tiok3 : TIok Try.prog 3 { size := 1, bytes := 8, kind := .int .i64, zero := [.int .i64 0], cmp := false } where
  info := ⟨Try.t3, by kernel_rfl, by kernel_rfl, by kernel_rfl, (.int .i64 0), by kernel_rfl, by kernel_rfl⟩
  kind := Try.underlying3
  zsc := List.all_eq_true.1 (by kernel_rfl)
  zsz := by kernel_rfl
  cmp := fun h => by cases h

theorem tiok4 : TIok Try.prog 4 { size := 1, bytes := 1, kind := .bool, zero := [.bool false], cmp := false } where
  info := ⟨Try.t4, by kernel_rfl, by kernel_rfl, by kernel_rfl, (.bool false), by kernel_rfl, by kernel_rfl⟩
  kind := Try.underlying4
  zsc := List.all_eq_true.1 (by kernel_rfl)
  zsz := by kernel_rfl
  cmp := fun h => by cases h

theorem tiok5 : TIok Try.prog 5 { size := 1, bytes := 1, kind := .int .u8, zero := [.int .u8 0], cmp := false } where
  info := ⟨Try.t5, by kernel_rfl, by kernel_rfl, by kernel_rfl, (.int .u8 0), by kernel_rfl, by kernel_rfl⟩
  kind := Try.underlying5
  zsc := List.all_eq_true.1 (by kernel_rfl)
  zsz := by kernel_rfl
  cmp := fun h => by cases h

theorem tiok22 : TIok Try.prog 22 { size := 1, bytes := 24, kind := .sli 40, zero := [.slice none 0 0], cmp := false } where
  info := ⟨Try.t22, by kernel_rfl, by kernel_rfl, by kernel_rfl, (.slice none 0 0), by kernel_rfl, by kernel_rfl⟩
  kind := Try.underlying22
  zsc := List.all_eq_true.1 (by kernel_rfl)
  zsz := by kernel_rfl
  cmp := fun h => by cases h

theorem tiok23 : TIok Try.prog 23 { size := 4, bytes := 4, kind := .arr 4 5, zero := [.int .u8 0, .int .u8 0, .int .u8 0, .int .u8 0], cmp := false } where
  info := ⟨Try.t23, by kernel_rfl, by kernel_rfl, by kernel_rfl, (.agg [.int .u8 0, .int .u8 0, .int .u8 0, .int .u8 0].toArray), by kernel_rfl, by kernel_rfl⟩
  kind := Try.underlying23
  zsc := List.all_eq_true.1 (by kernel_rfl)
  zsz := by kernel_rfl
  cmp := fun h => by cases h

theorem tiok26 : TIok Try.prog 26 { size := 1, bytes := 8, kind := .int .i64, zero := [.int .i64 0], cmp := false } where
  info := ⟨Try.t26, by kernel_rfl, by kernel_rfl, by kernel_rfl, (.int .i64 0), by kernel_rfl, by kernel_rfl⟩
  kind := Try.underlying26
  zsc := List.all_eq_true.1 (by kernel_rfl)
  zsz := by kernel_rfl
  cmp := fun h => by cases h

theorem tiok27 : TIok Try.prog 27 { size := 4, bytes := 32, kind := .str [(0, 1), (1, 1), (2, 1), (3, 1)], zero := [.int .i64 0, .bool false, .int .i64 0, .int .i64 0], cmp := true } where
  info := ⟨Try.t27, by kernel_rfl, by kernel_rfl, by kernel_rfl, (.agg [.int .i64 0, .bool false, .int .i64 0, .int .i64 0].toArray), by kernel_rfl, by kernel_rfl⟩
  kind := ⟨_, Try.underlying27, by kernel_rfl⟩
  zsc := List.all_eq_true.1 (by kernel_rfl)
  zsz := by kernel_rfl
  cmp := fun _ xs ys w hx hy => by
    refine ⟨Try.eqGuardType27, ?_⟩
    obtain ⟨x0, xr0, rfl, hx_0⟩ := shape_int hx
    obtain ⟨x1, xr1, rfl, hx_1⟩ := shape_bool hx_0
    obtain ⟨x2, xr2, rfl, hx_2⟩ := shape_int hx_1
    obtain ⟨x3, xr3, rfl, hx_3⟩ := shape_int hx_2
    obtain rfl := shape_nil hx_3
    obtain ⟨y0, yr0, rfl, hy_0⟩ := shape_int hy
    obtain ⟨y1, yr1, rfl, hy_1⟩ := shape_bool hy_0
    obtain ⟨y2, yr2, rfl, hy_2⟩ := shape_int hy_1
    obtain ⟨y3, yr3, rfl, hy_3⟩ := shape_int hy_2
    obtain rfl := shape_nil hy_3
    exact eqt27 9998 w x0 y0 x1 y1 x2 y2 x3 y3

theorem tiok28 : TIok Try.prog 28 { size := 4, bytes := 32, kind := .str [(0, 1), (1, 1), (2, 1), (3, 1)], zero := [.int .i64 0, .bool false, .int .i64 0, .int .i64 0], cmp := true } where
  info := ⟨Try.t28, by kernel_rfl, by kernel_rfl, by kernel_rfl, (.agg [.int .i64 0, .bool false, .int .i64 0, .int .i64 0].toArray), by kernel_rfl, by kernel_rfl⟩
  kind := ⟨_, Try.underlying28, by kernel_rfl⟩
  zsc := List.all_eq_true.1 (by kernel_rfl)
  zsz := by kernel_rfl
  cmp := fun _ xs ys w hx hy => by
    refine ⟨Try.eqGuardType28, ?_⟩
    obtain ⟨x0, xr0, rfl, hx_0⟩ := shape_int hx
    obtain ⟨x1, xr1, rfl, hx_1⟩ := shape_bool hx_0
    obtain ⟨x2, xr2, rfl, hx_2⟩ := shape_int hx_1
    obtain ⟨x3, xr3, rfl, hx_3⟩ := shape_int hx_2
    obtain rfl := shape_nil hx_3
    obtain ⟨y0, yr0, rfl, hy_0⟩ := shape_int hy
    obtain ⟨y1, yr1, rfl, hy_1⟩ := shape_bool hy_0
    obtain ⟨y2, yr2, rfl, hy_2⟩ := shape_int hy_1
    obtain ⟨y3, yr3, rfl, hy_3⟩ := shape_int hy_2
    obtain rfl := shape_nil hy_3
    exact eqt28 9998 w x0 y0 x1 y1 x2 y2 x3 y3

theorem tiok29 : TIok Try.prog 29 { size := 6, bytes := 48, kind := .str [(0, 1), (1, 1), (2, 4)], zero := [.int .i64 0, .int .i64 0, .int .i64 0, .bool false, .int .i64 0, .int .i64 0], cmp := true } where
  info := ⟨Try.t29, by kernel_rfl, by kernel_rfl, by kernel_rfl, (.agg [.int .i64 0, .int .i64 0, .int .i64 0, .bool false, .int .i64 0, .int .i64 0].toArray), by kernel_rfl, by kernel_rfl⟩
  kind := ⟨_, Try.underlying29, by kernel_rfl⟩
  zsc := List.all_eq_true.1 (by kernel_rfl)
  zsz := by kernel_rfl
  cmp := fun _ xs ys w hx hy => by
    refine ⟨Try.eqGuardType29, ?_⟩
    obtain ⟨x0, xr0, rfl, hx_0⟩ := shape_int hx
    obtain ⟨x1, xr1, rfl, hx_1⟩ := shape_int hx_0
    obtain ⟨x2, xr2, rfl, hx_2⟩ := shape_int hx_1
    obtain ⟨x3, xr3, rfl, hx_3⟩ := shape_bool hx_2
    obtain ⟨x4, xr4, rfl, hx_4⟩ := shape_int hx_3
    obtain ⟨x5, xr5, rfl, hx_5⟩ := shape_int hx_4
    obtain rfl := shape_nil hx_5
    obtain ⟨y0, yr0, rfl, hy_0⟩ := shape_int hy
    obtain ⟨y1, yr1, rfl, hy_1⟩ := shape_int hy_0
    obtain ⟨y2, yr2, rfl, hy_2⟩ := shape_int hy_1
    obtain ⟨y3, yr3, rfl, hy_3⟩ := shape_bool hy_2
    obtain ⟨y4, yr4, rfl, hy_4⟩ := shape_int hy_3
    obtain ⟨y5, yr5, rfl, hy_5⟩ := shape_int hy_4
    obtain rfl := shape_nil hy_5
    exact eqt29 9997 w x0 y0 x1 y1 x2 y2 x3 y3 x4 y4 x5 y5

theorem tiok30 : TIok Try.prog 30 { size := 6, bytes := 48, kind := .str [(0, 1), (1, 1), (2, 4)], zero := [.int .i64 0, .int .i64 0, .int .i64 0, .bool false, .int .i64 0, .int .i64 0], cmp := true } where
  info := ⟨Try.t30, by kernel_rfl, by kernel_rfl, by kernel_rfl, (.agg [.int .i64 0, .int .i64 0, .int .i64 0, .bool false, .int .i64 0, .int .i64 0].toArray), by kernel_rfl, by kernel_rfl⟩
  kind := ⟨_, Try.underlying30, by kernel_rfl⟩
  zsc := List.all_eq_true.1 (by kernel_rfl)
  zsz := by kernel_rfl
  cmp := fun _ xs ys w hx hy => by
    refine ⟨Try.eqGuardType30, ?_⟩
    obtain ⟨x0, xr0, rfl, hx_0⟩ := shape_int hx
    obtain ⟨x1, xr1, rfl, hx_1⟩ := shape_int hx_0
    obtain ⟨x2, xr2, rfl, hx_2⟩ := shape_int hx_1
    obtain ⟨x3, xr3, rfl, hx_3⟩ := shape_bool hx_2
    obtain ⟨x4, xr4, rfl, hx_4⟩ := shape_int hx_3
    obtain ⟨x5, xr5, rfl, hx_5⟩ := shape_int hx_4
    obtain rfl := shape_nil hx_5
    obtain ⟨y0, yr0, rfl, hy_0⟩ := shape_int hy
    obtain ⟨y1, yr1, rfl, hy_1⟩ := shape_int hy_0
    obtain ⟨y2, yr2, rfl, hy_2⟩ := shape_int hy_1
    obtain ⟨y3, yr3, rfl, hy_3⟩ := shape_bool hy_2
    obtain ⟨y4, yr4, rfl, hy_4⟩ := shape_int hy_3
    obtain ⟨y5, yr5, rfl, hy_5⟩ := shape_int hy_4
    obtain rfl := shape_nil hy_5
    exact eqt30 9997 w x0 y0 x1 y1 x2 y2 x3 y3 x4 y4 x5 y5

theorem tiok33 : TIok Try.prog 33 { size := 9, bytes := 72, kind := .str [(0, 1), (1, 1), (2, 1), (3, 1), (4, 1), (5, 1), (6, 1), (7, 1), (8, 1)], zero := [.int .i64 0, .int .i64 0, .int .i64 0, .int .i64 0, .int .i64 0, .int .i64 0, .int .i64 0, .int .i64 0, .int .i64 0], cmp := true } where
  info := ⟨Try.t33, by kernel_rfl, by kernel_rfl, by kernel_rfl, (.agg [.int .i64 0, .int .i64 0, .int .i64 0, .int .i64 0, .int .i64 0, .int .i64 0, .int .i64 0, .int .i64 0, .int .i64 0].toArray), by kernel_rfl, by kernel_rfl⟩
  kind := ⟨_, Try.underlying33, by kernel_rfl⟩
  zsc := List.all_eq_true.1 (by kernel_rfl)
  zsz := by kernel_rfl
  cmp := fun _ xs ys w hx hy => by
    refine ⟨Try.eqGuardType33, ?_⟩
    obtain ⟨x0, xr0, rfl, hx_0⟩ := shape_int hx
    obtain ⟨x1, xr1, rfl, hx_1⟩ := shape_int hx_0
    obtain ⟨x2, xr2, rfl, hx_2⟩ := shape_int hx_1
    obtain ⟨x3, xr3, rfl, hx_3⟩ := shape_int hx_2
    obtain ⟨x4, xr4, rfl, hx_4⟩ := shape_int hx_3
    obtain ⟨x5, xr5, rfl, hx_5⟩ := shape_int hx_4
    obtain ⟨x6, xr6, rfl, hx_6⟩ := shape_int hx_5
    obtain ⟨x7, xr7, rfl, hx_7⟩ := shape_int hx_6
    obtain ⟨x8, xr8, rfl, hx_8⟩ := shape_int hx_7
    obtain rfl := shape_nil hx_8
    obtain ⟨y0, yr0, rfl, hy_0⟩ := shape_int hy
    obtain ⟨y1, yr1, rfl, hy_1⟩ := shape_int hy_0
    obtain ⟨y2, yr2, rfl, hy_2⟩ := shape_int hy_1
    obtain ⟨y3, yr3, rfl, hy_3⟩ := shape_int hy_2
    obtain ⟨y4, yr4, rfl, hy_4⟩ := shape_int hy_3
    obtain ⟨y5, yr5, rfl, hy_5⟩ := shape_int hy_4
    obtain ⟨y6, yr6, rfl, hy_6⟩ := shape_int hy_5
    obtain ⟨y7, yr7, rfl, hy_7⟩ := shape_int hy_6
    obtain ⟨y8, yr8, rfl, hy_8⟩ := shape_int hy_7
    obtain rfl := shape_nil hy_8
    exact eqt33 9998 w x0 y0 x1 y1 x2 y2 x3 y3 x4 y4 x5 y5 x6 y6 x7 y7 x8 y8

theorem tiok34 : TIok Try.prog 34 { size := 9, bytes := 72, kind := .str [(0, 1), (1, 1), (2, 1), (3, 1), (4, 1), (5, 1), (6, 1), (7, 1), (8, 1)], zero := [.int .i64 0, .int .i64 0, .int .i64 0, .int .i64 0, .int .i64 0, .int .i64 0, .int .i64 0, .int .i64 0, .int .i64 0], cmp := true } where
  info := ⟨Try.t34, by kernel_rfl, by kernel_rfl, by kernel_rfl, (.agg [.int .i64 0, .int .i64 0, .int .i64 0, .int .i64 0, .int .i64 0, .int .i64 0, .int .i64 0, .int .i64 0, .int .i64 0].toArray), by kernel_rfl, by kernel_rfl⟩
  kind := ⟨_, Try.underlying34, by kernel_rfl⟩
  zsc := List.all_eq_true.1 (by kernel_rfl)
  zsz := by kernel_rfl
  cmp := fun _ xs ys w hx hy => by
    refine ⟨Try.eqGuardType34, ?_⟩
    obtain ⟨x0, xr0, rfl, hx_0⟩ := shape_int hx
    obtain ⟨x1, xr1, rfl, hx_1⟩ := shape_int hx_0
    obtain ⟨x2, xr2, rfl, hx_2⟩ := shape_int hx_1
    obtain ⟨x3, xr3, rfl, hx_3⟩ := shape_int hx_2
    obtain ⟨x4, xr4, rfl, hx_4⟩ := shape_int hx_3
    obtain ⟨x5, xr5, rfl, hx_5⟩ := shape_int hx_4
    obtain ⟨x6, xr6, rfl, hx_6⟩ := shape_int hx_5
    obtain ⟨x7, xr7, rfl, hx_7⟩ := shape_int hx_6
    obtain ⟨x8, xr8, rfl, hx_8⟩ := shape_int hx_7
    obtain rfl := shape_nil hx_8
    obtain ⟨y0, yr0, rfl, hy_0⟩ := shape_int hy
    obtain ⟨y1, yr1, rfl, hy_1⟩ := shape_int hy_0
    obtain ⟨y2, yr2, rfl, hy_2⟩ := shape_int hy_1
    obtain ⟨y3, yr3, rfl, hy_3⟩ := shape_int hy_2
    obtain ⟨y4, yr4, rfl, hy_4⟩ := shape_int hy_3
    obtain ⟨y5, yr5, rfl, hy_5⟩ := shape_int hy_4
    obtain ⟨y6, yr6, rfl, hy_6⟩ := shape_int hy_5
    obtain ⟨y7, yr7, rfl, hy_7⟩ := shape_int hy_6
    obtain ⟨y8, yr8, rfl, hy_8⟩ := shape_int hy_7
    obtain rfl := shape_nil hy_8
    exact eqt34 9998 w x0 y0 x1 y1 x2 y2 x3 y3 x4 y4 x5 y5 x6 y6 x7 y7 x8 y8

theorem tiok39 : TIok Try.prog 39 { size := 6, bytes := 48, kind := .str [(0, 1), (1, 1), (2, 1), (3, 1), (4, 1), (5, 1)], zero := [.int .i64 0, .int .i64 0, .int .i64 0, .bool false, .int .i64 0, .int .i64 0], cmp := true } where
  info := ⟨Try.t39, by kernel_rfl, by kernel_rfl, by kernel_rfl, (.agg [.int .i64 0, .int .i64 0, .int .i64 0, .bool false, .int .i64 0, .int .i64 0].toArray), by kernel_rfl, by kernel_rfl⟩
  kind := ⟨_, Try.underlying39, by kernel_rfl⟩
  zsc := List.all_eq_true.1 (by kernel_rfl)
  zsz := by kernel_rfl
  cmp := fun _ xs ys w hx hy => by
    refine ⟨Try.eqGuardType39, ?_⟩
    obtain ⟨x0, xr0, rfl, hx_0⟩ := shape_int hx
    obtain ⟨x1, xr1, rfl, hx_1⟩ := shape_int hx_0
    obtain ⟨x2, xr2, rfl, hx_2⟩ := shape_int hx_1
    obtain ⟨x3, xr3, rfl, hx_3⟩ := shape_bool hx_2
    obtain ⟨x4, xr4, rfl, hx_4⟩ := shape_int hx_3
    obtain ⟨x5, xr5, rfl, hx_5⟩ := shape_int hx_4
    obtain rfl := shape_nil hx_5
    obtain ⟨y0, yr0, rfl, hy_0⟩ := shape_int hy
    obtain ⟨y1, yr1, rfl, hy_1⟩ := shape_int hy_0
    obtain ⟨y2, yr2, rfl, hy_2⟩ := shape_int hy_1
    obtain ⟨y3, yr3, rfl, hy_3⟩ := shape_bool hy_2
    obtain ⟨y4, yr4, rfl, hy_4⟩ := shape_int hy_3
    obtain ⟨y5, yr5, rfl, hy_5⟩ := shape_int hy_4
    obtain rfl := shape_nil hy_5
    exact eqt39 9998 w x0 y0 x1 y1 x2 y2 x3 y3 x4 y4 x5 y5

theorem tiok40 : TIok Try.prog 40 { size := 6, bytes := 48, kind := .str [(0, 1), (1, 1), (2, 1), (3, 1), (4, 1), (5, 1)], zero := [.int .i64 0, .int .i64 0, .int .i64 0, .bool false, .int .i64 0, .int .i64 0], cmp := true } where
  info := ⟨Try.t40, by kernel_rfl, by kernel_rfl, by kernel_rfl, (.agg [.int .i64 0, .int .i64 0, .int .i64 0, .bool false, .int .i64 0, .int .i64 0].toArray), by kernel_rfl, by kernel_rfl⟩
  kind := ⟨_, Try.underlying40, by kernel_rfl⟩
  zsc := List.all_eq_true.1 (by kernel_rfl)
  zsz := by kernel_rfl
  cmp := fun _ xs ys w hx hy => by
    refine ⟨Try.eqGuardType40, ?_⟩
    obtain ⟨x0, xr0, rfl, hx_0⟩ := shape_int hx
    obtain ⟨x1, xr1, rfl, hx_1⟩ := shape_int hx_0
    obtain ⟨x2, xr2, rfl, hx_2⟩ := shape_int hx_1
    obtain ⟨x3, xr3, rfl, hx_3⟩ := shape_bool hx_2
    obtain ⟨x4, xr4, rfl, hx_4⟩ := shape_int hx_3
    obtain ⟨x5, xr5, rfl, hx_5⟩ := shape_int hx_4
    obtain rfl := shape_nil hx_5
    obtain ⟨y0, yr0, rfl, hy_0⟩ := shape_int hy
    obtain ⟨y1, yr1, rfl, hy_1⟩ := shape_int hy_0
    obtain ⟨y2, yr2, rfl, hy_2⟩ := shape_int hy_1
    obtain ⟨y3, yr3, rfl, hy_3⟩ := shape_bool hy_2
    obtain ⟨y4, yr4, rfl, hy_4⟩ := shape_int hy_3
    obtain ⟨y5, yr5, rfl, hy_5⟩ := shape_int hy_4
    obtain rfl := shape_nil hy_5
    exact eqt40 9998 w x0 y0 x1 y1 x2 y2 x3 y3 x4 y4 x5 y5

theorem tiok43 : TIok Try.prog 43 { size := 2, bytes := 16, kind := .arr 2 2, zero := [.int .i64 0, .int .i64 0], cmp := false } where
  info := ⟨Try.t43, by kernel_rfl, by kernel_rfl, by kernel_rfl, (.agg [.int .i64 0, .int .i64 0].toArray), by kernel_rfl, by kernel_rfl⟩
  kind := Try.underlying43
  zsc := List.all_eq_true.1 (by kernel_rfl)
  zsz := by kernel_rfl
  cmp := fun h => by cases h

theorem tiok48 : TIok Try.prog 48 { size := 5, bytes := 40, kind := .str [(0, 1), (1, 4)], zero := [.bool false, .int .i64 0, .bool false, .int .i64 0, .int .i64 0], cmp := true } where
  info := ⟨Try.t48, by kernel_rfl, by kernel_rfl, by kernel_rfl, (.agg [.bool false, .int .i64 0, .bool false, .int .i64 0, .int .i64 0].toArray), by kernel_rfl, by kernel_rfl⟩
  kind := ⟨_, Try.underlying48, by kernel_rfl⟩
  zsc := List.all_eq_true.1 (by kernel_rfl)
  zsz := by kernel_rfl
  cmp := fun _ xs ys w hx hy => by
    refine ⟨Try.eqGuardType48, ?_⟩
    obtain ⟨x0, xr0, rfl, hx_0⟩ := shape_bool hx
    obtain ⟨x1, xr1, rfl, hx_1⟩ := shape_int hx_0
    obtain ⟨x2, xr2, rfl, hx_2⟩ := shape_bool hx_1
    obtain ⟨x3, xr3, rfl, hx_3⟩ := shape_int hx_2
    obtain ⟨x4, xr4, rfl, hx_4⟩ := shape_int hx_3
    obtain rfl := shape_nil hx_4
    obtain ⟨y0, yr0, rfl, hy_0⟩ := shape_bool hy
    obtain ⟨y1, yr1, rfl, hy_1⟩ := shape_int hy_0
    obtain ⟨y2, yr2, rfl, hy_2⟩ := shape_bool hy_1
    obtain ⟨y3, yr3, rfl, hy_3⟩ := shape_int hy_2
    obtain ⟨y4, yr4, rfl, hy_4⟩ := shape_int hy_3
    obtain rfl := shape_nil hy_4
    exact eqt48 9997 w x0 y0 x1 y1 x2 y2 x3 y3 x4 y4

theorem tiok49 : TIok Try.prog 49 { size := 5, bytes := 40, kind := .str [(0, 1), (1, 4)], zero := [.bool false, .int .i64 0, .bool false, .int .i64 0, .int .i64 0], cmp := true } where
  info := ⟨Try.t49, by kernel_rfl, by kernel_rfl, by kernel_rfl, (.agg [.bool false, .int .i64 0, .bool false, .int .i64 0, .int .i64 0].toArray), by kernel_rfl, by kernel_rfl⟩
  kind := ⟨_, Try.underlying49, by kernel_rfl⟩
  zsc := List.all_eq_true.1 (by kernel_rfl)
  zsz := by kernel_rfl
  cmp := fun _ xs ys w hx hy => by
    refine ⟨Try.eqGuardType49, ?_⟩
    obtain ⟨x0, xr0, rfl, hx_0⟩ := shape_bool hx
    obtain ⟨x1, xr1, rfl, hx_1⟩ := shape_int hx_0
    obtain ⟨x2, xr2, rfl, hx_2⟩ := shape_bool hx_1
    obtain ⟨x3, xr3, rfl, hx_3⟩ := shape_int hx_2
    obtain ⟨x4, xr4, rfl, hx_4⟩ := shape_int hx_3
    obtain rfl := shape_nil hx_4
    obtain ⟨y0, yr0, rfl, hy_0⟩ := shape_bool hy
    obtain ⟨y1, yr1, rfl, hy_1⟩ := shape_int hy_0
    obtain ⟨y2, yr2, rfl, hy_2⟩ := shape_bool hy_1
    obtain ⟨y3, yr3, rfl, hy_3⟩ := shape_int hy_2
    obtain ⟨y4, yr4, rfl, hy_4⟩ := shape_int hy_3
    obtain rfl := shape_nil hy_4
    exact eqt49 9997 w x0 y0 x1 y1 x2 y2 x3 y3 x4 y4

theorem tiok50 : TIok Try.prog 50 { size := 2560, bytes := 20480, kind := .arr 512 49, zero := bigz0, cmp := false } where
  info := ⟨Try.t50, by kernel_rfl, by kernel_rfl, by kernel_rfl, (.agg bigz0.toArray), by kernel_rfl, by kernel_rfl⟩
  kind := Try.underlying50
  zsc := List.all_eq_true.1 (by kernel_rfl)
  zsz := by kernel_rfl
  cmp := fun h => by cases h

theorem tiok51 : TIok Try.prog 51 { size := 2560, bytes := 20480, kind := .arr 512 49, zero := bigz0, cmp := false } where
  info := ⟨Try.t51, by kernel_rfl, by kernel_rfl, by kernel_rfl, (.agg bigz0.toArray), by kernel_rfl, by kernel_rfl⟩
  kind := Try.underlying51
  zsc := List.all_eq_true.1 (by kernel_rfl)
  zsz := by kernel_rfl
  cmp := fun h => by cases h

theorem tiok90 : TIok Try.prog 90 { size := 1, bytes := 24, kind := .sli 93, zero := [.slice none 0 0], cmp := false } where
  info := ⟨Try.t90, by kernel_rfl, by kernel_rfl, by kernel_rfl, (.slice none 0 0), by kernel_rfl, by kernel_rfl⟩
  kind := Try.underlying90
  zsc := List.all_eq_true.1 (by kernel_rfl)
  zsz := by kernel_rfl
  cmp := fun h => by cases h

theorem tiok92 : TIok Try.prog 92 { size := 2, bytes := 16, kind := .str [(0, 1), (1, 1)], zero := [.int .i64 0, .int .i64 0], cmp := true } where
  info := ⟨Try.t92, by kernel_rfl, by kernel_rfl, by kernel_rfl, (.agg [.int .i64 0, .int .i64 0].toArray), by kernel_rfl, by kernel_rfl⟩
  kind := ⟨_, Try.underlying92, by kernel_rfl⟩
  zsc := List.all_eq_true.1 (by kernel_rfl)
  zsz := by kernel_rfl
  cmp := fun _ xs ys w hx hy => by
    refine ⟨Try.eqGuardType92, ?_⟩
    obtain ⟨x0, xr0, rfl, hx_0⟩ := shape_int hx
    obtain ⟨x1, xr1, rfl, hx_1⟩ := shape_int hx_0
    obtain rfl := shape_nil hx_1
    obtain ⟨y0, yr0, rfl, hy_0⟩ := shape_int hy
    obtain ⟨y1, yr1, rfl, hy_1⟩ := shape_int hy_0
    obtain rfl := shape_nil hy_1
    exact eqt92 9998 w x0 y0 x1 y1

theorem tiok93 : TIok Try.prog 93 { size := 2, bytes := 16, kind := .str [(0, 1), (1, 1)], zero := [.int .i64 0, .int .i64 0], cmp := true } where
  info := ⟨Try.t93, by kernel_rfl, by kernel_rfl, by kernel_rfl, (.agg [.int .i64 0, .int .i64 0].toArray), by kernel_rfl, by kernel_rfl⟩
  kind := ⟨_, Try.underlying93, by kernel_rfl⟩
  zsc := List.all_eq_true.1 (by kernel_rfl)
  zsz := by kernel_rfl
  cmp := fun _ xs ys w hx hy => by
    refine ⟨Try.eqGuardType93, ?_⟩
    obtain ⟨x0, xr0, rfl, hx_0⟩ := shape_int hx
    obtain ⟨x1, xr1, rfl, hx_1⟩ := shape_int hx_0
    obtain rfl := shape_nil hx_1
    obtain ⟨y0, yr0, rfl, hy_0⟩ := shape_int hy
    obtain ⟨y1, yr1, rfl, hy_1⟩ := shape_int hy_0
    obtain rfl := shape_nil hy_1
    exact eqt93 9998 w x0 y0 x1 y1

theorem tiok102 : TIok Try.prog 102 { size := 1, bytes := 24, kind := .sli 22, zero := [.slice none 0 0], cmp := false } where
  info := ⟨Try.t102, by kernel_rfl, by kernel_rfl, by kernel_rfl, (.slice none 0 0), by kernel_rfl, by kernel_rfl⟩
  kind := Try.underlying102
  zsc := List.all_eq_true.1 (by kernel_rfl)
  zsz := by kernel_rfl
  cmp := fun h => by cases h

theorem tiok108 : TIok Try.prog 108 { size := 0, bytes := 0, kind := .arr 0 16, zero := [], cmp := false } where
  info := ⟨Try.t108, by kernel_rfl, by kernel_rfl, by kernel_rfl, (.agg [].toArray), by kernel_rfl, by kernel_rfl⟩
  kind := Try.underlying108
  zsc := List.all_eq_true.1 (by kernel_rfl)
  zsz := by kernel_rfl
  cmp := fun h => by cases h

theorem te_ok : TEok Try.prog te := by
  intro t ti h
  unfold te at h
  split at h
  · injection h with h; subst h; exact tiok2
  · injection h with h; subst h; exact tiok3
  · injection h with h; subst h; exact tiok4
  · injection h with h; subst h; exact tiok5
  · injection h with h; subst h; exact tiok22
  · injection h with h; subst h; exact tiok23
  · injection h with h; subst h; exact tiok26
  · injection h with h; subst h; exact tiok27
  · injection h with h; subst h; exact tiok28
  · injection h with h; subst h; exact tiok29
  · injection h with h; subst h; exact tiok30
  · injection h with h; subst h; exact tiok33
  · injection h with h; subst h; exact tiok34
  · injection h with h; subst h; exact tiok39
  · injection h with h; subst h; exact tiok40
  · injection h with h; subst h; exact tiok43
  · injection h with h; subst h; exact tiok48
  · injection h with h; subst h; exact tiok49
  · injection h with h; subst h; exact tiok50
  · injection h with h; subst h; exact tiok51
  · injection h with h; subst h; exact tiok90
  · injection h with h; subst h; exact tiok92
  · injection h with h; subst h; exact tiok93
  · injection h with h; subst h; exact tiok102
  · injection h with h; subst h; exact tiok108
  · cases h

end Go.Abs
