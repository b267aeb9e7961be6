/-
  Joined texts: P1 K1 P2 K2 K3 K4.
-/
import Derived.Test.YtcgogenmikakkaaB3
import Derived.Test.YtcgogenmikakkaaB4
/-
  What the program's functions compute: checks, mapping and protecting; numbers.
-/
namespace Go.Abs
set_option linter.unusedVariables false
set_option linter.unusedSimpArgs false
open Go.RowKit

def ansE (e : Int) : Ar := ⟨e, 0, 0, false, 0, 0⟩
def ansV (v : Int) : Ar := ⟨0, v, 0, false, 0, 0⟩
def sizeS (n : Int) : Int × Int := if n = 0 then (0, 3) else if n < 0 ∨ n > 2031616 then (0, 4) else ((n + 4095) / 4096 * 4096, 0)
def rangeS (a n : Int) : Int × Int × Int :=
  if a % 4096 ≠ 0 then (0, 0, 2) else if (sizeS n).2 ≠ 0 then (0, 0, (sizeS n).2) else if a < 65536 ∨ a > 2097152 - (sizeS n).1 then (0, 0, 4) else (a, a + (sizeS n).1, 0)
def protS (p : Int) : Int := if p < 0 ∨ p > 7 then 1 else 0
def mayS (l : List Ar) : Bool := right l && decide (l.length ≤ 24)
def keptS (was now : List Ar) (v : Int) : List Ar × Ar := if now.length > 24 then (was, ansE 9) else (now, ansV v)
/-- what is wrong with what is to be protected, and its range -/
def pwrongS (l : List Ar) (c : Ca) : Int × Int × Int :=
  if !mayS l then (0, 0, 1)
  else
    let r := rangeS c.a c.l
    if r.2.2 ≠ 0 then r
    else if protS c.p ≠ 0 then (r.1, r.2.1, protS c.p)
    else if !covered l r.1 r.2.1 then (r.1, r.2.1, 7) else r
def protectS (l : List Ar) (c : Ca) : List Ar × Ar :=
  if (pwrongS l c).2.2 ≠ 0 then (l, ansE (pwrongS l c).2.2) else keptS l (setS l (pwrongS l c).1 (pwrongS l c).2.1 c.p) 0
def faultS (l : List Ar) (c : Ca) : Ar :=
  if !mayS l || decide (c.p < 1) || decide (c.p > 7) then ansE 1
  else match findS l c.a with
    | none => ansE 7
    | some a => if may a c.p then ⟨0, 0, (atr a c.a).p, (atr a c.a).sh, (atr a c.a).b, (atr a c.a).o⟩ else ansE 8

theorem ar_setat (a : Ar) (t : At) : setAll a.c 2 t.c = Ar.c { a with p := t.p, sh := t.sh, b := t.b, o := t.o } := rfl
theorem pg_setat (a : Pg) (t : At) : setAll a.c 1 t.c = Pg.c { a with p := t.p, sh := t.sh, b := t.b, o := t.o } := rfl
attribute [go_sem] ar_setat pg_setat
theorem tmod_zero (a : Int) : (a.tmod 4096 = 0) = (a % 4096 = 0) := by
  rw [← Int.dvd_iff_tmod_eq_zero, ← Int.dvd_iff_emod_eq_zero]
theorem size_wrap {n : Int} (h0 : 0 ≤ n) (h1 : n ≤ 2031616) : IntKind.i64.wrap (IntKind.i64.wrap ((IntKind.i64.wrap (IntKind.i64.wrap (n + 4096) - 1)).tdiv 4096) * 4096) = (n + 4095) / 4096 * 4096 := by
  rw [wrap_id (n := n + 4096) (by omega) (by omega), wrap_id (n := n + 4096 - 1) (by omega) (by omega), Int.tdiv_eq_ediv_of_nonneg (by omega), wrap_id (n := (n + 4096 - 1) / 4096) (by omega) (by omega), wrap_id (by omega) (by omega)]
  omega
end Go.Abs
/-
  check.Size, Range, Prot; mapping.may, failed, Kept; protect.may, wrong, Protect, Fault.
-/
namespace Go.Abs
set_option linter.unusedVariables false
set_option linter.unusedSimpArgs false
open Go.Proofs
set_option maxHeartbeats 4000000

theorem size_c (n : Int) (H : Heap) : ACalls Try.prog 70 [.s (I n)] H (.tup [.s (I (sizeS n).1), .s (I (sizeS n).2)]) H := by
  refine acalls_pure te_ok mix Try.func70 rfl Try.call70 (by kernel_rfl) (by kernel_rfl) rfl rfl ?_; simp only [Try.results70]
  by_cases h0 : n = 0
  · subst h0
    repeat' (first | refine st ?_ | refine pblock_en rfl ?_ | (refine ss ?_; intro K_ hK_) | refine vops_gf rfl ?_ | refine vops_gt rfl ?_ | (refine sk ?_; intro k_ hk_; simp only [go_sem, simprocAttr, beq_self_eq_true]; (with_reducible first | refine hk_ _ _ ?_ | refine hk_ _ ?_); clear hk_ k_) | ((first | refine sg ?_ | refine sc ?_); intro x_ y_ hx_ hy_; simp only [go_sem, simprocAttr, beq_self_eq_true]; ((first | (with_reducible first | refine hx_ ?_ | refine hy_ ?_) | (with_reducible first | refine bI_split (fun h_ => hx_ ?_) (fun h_ => hy_ ?_) | refine bI_split (fun h_ => hy_ ?_) (fun h_ => hx_ ?_)) <;> try rw [h_]) <;> clear hx_ hy_ x_ y_)) | ((with_reducible first | refine hK_ _ _ ?_ | refine hK_ _ _ _ _ (Weak.refl _ _) ?_); clear hK_ K_) | clear hK_ K_)
    exact ⟨rfl, HExt.refl _⟩
  · by_cases h1 : n < 0 ∨ n > 2031616
    · have e : sizeS n = (0, 4) := by simp [sizeS, h0, h1]
      have hn : (n == 0) = false := by simpa using h0
      rw [e]
      repeat' (first | refine st ?_ | refine pblock_en rfl ?_ | (refine ss ?_; intro K_ hK_) | refine vops_gf rfl ?_ | refine vops_gt rfl ?_ | (refine sk ?_; intro k_ hk_; simp only [go_sem, simprocAttr, hn]; (with_reducible first | refine hk_ _ _ ?_ | refine hk_ _ ?_); clear hk_ k_) | ((first | refine sg ?_ | refine sc ?_); intro x_ y_ hx_ hy_; simp only [go_sem, simprocAttr, hn]; ((first | (with_reducible first | refine hx_ ?_ | refine hy_ ?_) | (with_reducible first | refine bI_split (fun h_ => hx_ ?_) (fun h_ => hy_ ?_) | refine bI_split (fun h_ => hy_ ?_) (fun h_ => hx_ ?_)) <;> try rw [h_]) <;> clear hx_ hy_ x_ y_)) | ((with_reducible first | refine hK_ _ _ ?_ | refine hK_ _ _ _ _ (Weak.refl _ _) ?_); clear hK_ K_) | clear hK_ K_)
      all_goals first
        | exact ⟨rfl, HExt.refl _⟩
        | (exfalso; simp_all; omega)
    · have e : sizeS n = ((n + 4095) / 4096 * 4096, 0) := by simp [sizeS, h0, h1]
      have hn : (n == 0) = false := by simpa using h0
      have f1 : (n < 0) = False := by simp; omega
      have f2 : (n > 2031616) = False := by simp; omega
      have hw := size_wrap (n := n) (by omega) (by omega)
      rw [e]
      repeat' (first | refine st ?_ | refine pblock_en rfl ?_ | (refine ss ?_; intro K_ hK_) | refine vops_gf rfl ?_ | refine vops_gt rfl ?_ | (refine sk ?_; intro k_ hk_; simp only [go_sem, simprocAttr, hn, f1, f2, hw]; (with_reducible first | refine hk_ _ _ ?_ | refine hk_ _ ?_); clear hk_ k_) | ((first | refine sg ?_ | refine sc ?_); intro x_ y_ hx_ hy_; simp only [go_sem, simprocAttr, hn, f1, f2, hw]; ((first | (with_reducible first | refine hx_ ?_ | refine hy_ ?_) | (with_reducible first | refine bI_split (fun h_ => hx_ ?_) (fun h_ => hy_ ?_) | refine bI_split (fun h_ => hy_ ?_) (fun h_ => hx_ ?_)) <;> try rw [h_]) <;> clear hx_ hy_ x_ y_)) | ((with_reducible first | refine hK_ _ _ ?_ | refine hK_ _ _ _ _ (Weak.refl _ _) ?_); clear hK_ K_) | clear hK_ K_)
      exact ⟨rfl, HExt.refl _⟩
theorem size_bd (n : Int) : 0 ≤ (sizeS n).1 ∧ (sizeS n).1 ≤ 2031616 := by
  unfold sizeS; split
  · simp
  · split
    · simp
    · simp; omega
theorem range_c (a n : Int) (H : Heap) : ACalls Try.prog 44 [.s (I a), .s (I n)] H (.tup [.s (I (rangeS a n).1), .s (I (rangeS a n).2.1), .s (I (rangeS a n).2.2)]) H := by
  have hb := size_bd n
  have hw : IntKind.i64.wrap (2097152 - (sizeS n).1) = 2097152 - (sizeS n).1 := wrap_id (by omega) (by omega)
  refine acalls_pure te_ok mix Try.func44 rfl Try.call44 (by kernel_rfl) (by kernel_rfl) rfl rfl ?_; simp only [Try.results44]
  by_cases h0 : a % 4096 = 0
  · have h0' : (a.tmod 4096 != 0) = false := by simpa [tmod_zero] using h0
    by_cases h1 : (sizeS n).2 = 0
    · have h1' : ((sizeS n).2 != 0) = false := by simpa using h1
      by_cases h2 : a < 65536 ∨ a > 2097152 - (sizeS n).1
      · have e : rangeS a n = (0, 0, 4) := by simp [rangeS, h0, h1, h2]
        rw [e]
        repeat' (first | refine st ?_ | refine pblock_en rfl ?_ | (refine ss ?_; intro K_ hK_) | refine vops_gf rfl ?_ | refine vops_gt rfl ?_ | (refine sk ?_; intro k_ hk_; simp only [go_sem, simprocAttr, h0', h1', hw]; (with_reducible first | refine hk_ _ _ ?_ | refine hk_ _ ?_); clear hk_ k_) | ((first | refine sg ?_ | refine sc ?_); intro x_ y_ hx_ hy_; simp only [go_sem, simprocAttr, h0', h1', hw]; ((first | (with_reducible first | refine hx_ ?_ | refine hy_ ?_) | (with_reducible first | refine bI_split (fun h_ => hx_ ?_) (fun h_ => hy_ ?_) | refine bI_split (fun h_ => hy_ ?_) (fun h_ => hx_ ?_)) <;> try rw [h_]) <;> clear hx_ hy_ x_ y_)) | (with_reducible first | refine callv_pure (size_c _ _) ?_) | ((with_reducible first | refine hK_ _ _ ?_ | refine hK_ _ _ _ _ (Weak.refl _ _) ?_); clear hK_ K_) | clear hK_ K_)
        all_goals first
          | exact ⟨rfl, HExt.refl _⟩
          | (exfalso; simp_all; omega)
      · have e : rangeS a n = (a, a + (sizeS n).1, 0) := by simp [rangeS, h0, h1, h2]
        have f1 : (a < 65536) = False := by simp; omega
        have f2 : (a > 2097152 - (sizeS n).1) = False := by simp; omega
        have hw2 : IntKind.i64.wrap (a + (sizeS n).1) = a + (sizeS n).1 := wrap_id (by omega) (by omega)
        rw [e]
        repeat' (first | refine st ?_ | refine pblock_en rfl ?_ | (refine ss ?_; intro K_ hK_) | refine vops_gf rfl ?_ | refine vops_gt rfl ?_ | (refine sk ?_; intro k_ hk_; simp only [go_sem, simprocAttr, h0', h1', hw, f1, f2, hw2]; (with_reducible first | refine hk_ _ _ ?_ | refine hk_ _ ?_); clear hk_ k_) | ((first | refine sg ?_ | refine sc ?_); intro x_ y_ hx_ hy_; simp only [go_sem, simprocAttr, h0', h1', hw, f1, f2, hw2]; ((first | (with_reducible first | refine hx_ ?_ | refine hy_ ?_) | (with_reducible first | refine bI_split (fun h_ => hx_ ?_) (fun h_ => hy_ ?_) | refine bI_split (fun h_ => hy_ ?_) (fun h_ => hx_ ?_)) <;> try rw [h_]) <;> clear hx_ hy_ x_ y_)) | (with_reducible first | refine callv_pure (size_c _ _) ?_) | ((with_reducible first | refine hK_ _ _ ?_ | refine hK_ _ _ _ _ (Weak.refl _ _) ?_); clear hK_ K_) | clear hK_ K_)
        exact ⟨rfl, HExt.refl _⟩
    · have h1' : ((sizeS n).2 != 0) = true := by simpa using h1
      have e : rangeS a n = (0, 0, (sizeS n).2) := by simp [rangeS, h0, h1]
      rw [e]
      repeat' (first | refine st ?_ | refine pblock_en rfl ?_ | (refine ss ?_; intro K_ hK_) | refine vops_gf rfl ?_ | refine vops_gt rfl ?_ | (refine sk ?_; intro k_ hk_; simp only [go_sem, simprocAttr, h0', h1', hw]; (with_reducible first | refine hk_ _ _ ?_ | refine hk_ _ ?_); clear hk_ k_) | ((first | refine sg ?_ | refine sc ?_); intro x_ y_ hx_ hy_; simp only [go_sem, simprocAttr, h0', h1', hw]; ((first | (with_reducible first | refine hx_ ?_ | refine hy_ ?_) | (with_reducible first | refine bI_split (fun h_ => hx_ ?_) (fun h_ => hy_ ?_) | refine bI_split (fun h_ => hy_ ?_) (fun h_ => hx_ ?_)) <;> try rw [h_]) <;> clear hx_ hy_ x_ y_)) | (with_reducible first | refine callv_pure (size_c _ _) ?_) | ((with_reducible first | refine hK_ _ _ ?_ | refine hK_ _ _ _ _ (Weak.refl _ _) ?_); clear hK_ K_) | clear hK_ K_)
      exact ⟨rfl, HExt.refl _⟩
  · have h0' : (a.tmod 4096 != 0) = true := by simpa [tmod_zero] using h0
    have e : rangeS a n = (0, 0, 2) := by simp [rangeS, h0]
    rw [e]
    repeat' (first | refine st ?_ | refine pblock_en rfl ?_ | (refine ss ?_; intro K_ hK_) | refine vops_gf rfl ?_ | refine vops_gt rfl ?_ | (refine sk ?_; intro k_ hk_; simp only [go_sem, simprocAttr, h0', hw]; (with_reducible first | refine hk_ _ _ ?_ | refine hk_ _ ?_); clear hk_ k_) | ((first | refine sg ?_ | refine sc ?_); intro x_ y_ hx_ hy_; simp only [go_sem, simprocAttr, h0', hw]; ((first | (with_reducible first | refine hx_ ?_ | refine hy_ ?_) | (with_reducible first | refine bI_split (fun h_ => hx_ ?_) (fun h_ => hy_ ?_) | refine bI_split (fun h_ => hy_ ?_) (fun h_ => hx_ ?_)) <;> try rw [h_]) <;> clear hx_ hy_ x_ y_)) | (with_reducible first | refine callv_pure (size_c _ _) ?_) | ((with_reducible first | refine hK_ _ _ ?_ | refine hK_ _ _ _ _ (Weak.refl _ _) ?_); clear hK_ K_) | clear hK_ K_)
    exact ⟨rfl, HExt.refl _⟩
theorem prot_c (p : Int) (H : Heap) : ACalls Try.prog 59 [.s (I p)] H (.s (I (protS p))) H := by
  refine acalls_pure te_ok mix Try.func59 rfl Try.call59 (by kernel_rfl) (by kernel_rfl) rfl rfl ?_; simp only [Try.results59]
  repeat' (first | refine st ?_ | refine pblock_en rfl ?_ | (refine ss ?_; intro K_ hK_) | refine vops_gf rfl ?_ | refine vops_gt rfl ?_ | (refine sk ?_; intro k_ hk_; simp only [go_sem, simprocAttr]; (with_reducible first | refine hk_ _ _ ?_ | refine hk_ _ ?_); clear hk_ k_) | ((first | refine sg ?_ | refine sc ?_); intro x_ y_ hx_ hy_; simp only [go_sem, simprocAttr]; ((first | (with_reducible first | refine hx_ ?_ | refine hy_ ?_) | (with_reducible first | refine bI_split (fun h_ => hx_ ?_) (fun h_ => hy_ ?_) | refine bI_split (fun h_ => hy_ ?_) (fun h_ => hx_ ?_)) <;> try rw [h_]) <;> clear hx_ hy_ x_ y_)) | ((with_reducible first | refine hK_ _ _ ?_ | refine hK_ _ _ _ _ (Weak.refl _ _) ?_); clear hK_ K_) | clear hK_ K_)
  all_goals refine ⟨?_, HExt.refl _⟩
  all_goals simp_all [protS]
  all_goals omega
theorem mmay_c (l : List Ar) (hl : l.length < 100000) (H : Heap) : ACalls Try.prog 36 [.s (LV Ar.c l)] H (.s (Bo (mayS l))) H := by
  have hl' : l.length < 1000000 := by omega
  have e24 : ((l.length : Int) ≤ 24) = (l.length ≤ 24) := by simp; omega
  refine acalls_pure te_ok mix Try.func36 rfl Try.call36 (by kernel_rfl) (by kernel_rfl) rfl rfl ?_; simp only [Try.results36]
  repeat' (first | refine st ?_ | refine pblock_en rfl ?_ | (refine ss ?_; intro K_ hK_) | refine vops_gf rfl ?_ | refine vops_gt rfl ?_ | (refine sk ?_; intro k_ hk_; simp only [go_sem, simprocAttr, e24]; (with_reducible first | refine hk_ _ _ ?_ | refine hk_ _ ?_); clear hk_ k_) | ((first | refine sg ?_ | refine sc ?_); intro x_ y_ hx_ hy_; simp only [go_sem, simprocAttr, e24]; ((first | (with_reducible first | refine hx_ ?_ | refine hy_ ?_) | (with_reducible first | refine bI_split (fun h_ => hx_ ?_) (fun h_ => hy_ ?_) | refine bI_split (fun h_ => hy_ ?_) (fun h_ => hx_ ?_)) <;> try rw [h_]) <;> clear hx_ hy_ x_ y_)) | (with_reducible first | refine callv_pure (right_c l hl' _) ?_) | ((with_reducible first | refine hK_ _ _ ?_ | refine hK_ _ _ _ _ (Weak.refl _ _) ?_); clear hK_ K_) | clear hK_ K_)
  all_goals refine ⟨?_, HExt.refl _⟩
  all_goals simp_all [mayS]
theorem failed_c (l : List Ar) (hl : l.length < 100000) (e : Int) (H : Heap) : ACalls Try.prog 37 [.s (LV Ar.c l), .s (I e)] H (.tup [.s (LV Ar.c l), .agg (ansE e).c]) H := by
  have hl' : l.length < 1000000 := by omega
  refine acalls_pure te_ok mix Try.func37 rfl Try.call37 (by kernel_rfl) (by kernel_rfl) rfl rfl ?_; simp only [Try.results37]
  repeat' (first | refine st ?_ | refine pblock_en rfl ?_ | (refine ss ?_; intro K_ hK_) | refine vops_gf rfl ?_ | refine vops_gt rfl ?_ | (refine sk ?_; intro k_ hk_; simp only [go_sem, simprocAttr]; (with_reducible first | refine hk_ _ _ ?_ | refine hk_ _ ?_); clear hk_ k_) | ((first | refine sg ?_ | refine sc ?_); intro x_ y_ hx_ hy_; simp only [go_sem, simprocAttr]; ((first | (with_reducible first | refine hx_ ?_ | refine hy_ ?_) | (with_reducible first | refine bI_split (fun h_ => hx_ ?_) (fun h_ => hy_ ?_) | refine bI_split (fun h_ => hy_ ?_) (fun h_ => hx_ ?_)) <;> try rw [h_]) <;> clear hx_ hy_ x_ y_)) | (with_reducible first | refine callv_pure (clone_c l hl' _) ?_) | ((with_reducible first | refine hK_ _ _ ?_ | refine hK_ _ _ _ _ (Weak.refl _ _) ?_); clear hK_ K_) | clear hK_ K_)
  exact ⟨rfl, hxt⟩
theorem kept_c (was now : List Ar) (hw : was.length < 100000) (hn : now.length < 1000000) (v : Int) (H : Heap) : ACalls Try.prog 30 [.s (LV Ar.c was), .s (LV Ar.c now), .s (I v)] H (.tup [.s (LV Ar.c (keptS was now v).1), .agg (keptS was now v).2.c]) H := by
  refine acalls_pure te_ok mix Try.func30 rfl Try.call30 (by kernel_rfl) (by kernel_rfl) rfl rfl ?_; simp only [Try.results30]
  by_cases h : now.length > 24
  · have e24 : ((now.length : Int) > 24) = True := by simp; omega
    repeat' (first | refine st ?_ | refine pblock_en rfl ?_ | (refine ss ?_; intro K_ hK_) | refine vops_gf rfl ?_ | refine vops_gt rfl ?_ | (refine sk ?_; intro k_ hk_; simp only [go_sem, simprocAttr, e24]; (with_reducible first | refine hk_ _ _ ?_ | refine hk_ _ ?_); clear hk_ k_) | ((first | refine sg ?_ | refine sc ?_); intro x_ y_ hx_ hy_; simp only [go_sem, simprocAttr, e24]; ((first | (with_reducible first | refine hx_ ?_ | refine hy_ ?_) | (with_reducible first | refine bI_split (fun h_ => hx_ ?_) (fun h_ => hy_ ?_) | refine bI_split (fun h_ => hy_ ?_) (fun h_ => hx_ ?_)) <;> try rw [h_]) <;> clear hx_ hy_ x_ y_)) | (with_reducible first | refine callv_pure (failed_c was hw _ _) ?_) | ((with_reducible first | refine hK_ _ _ ?_ | refine hK_ _ _ _ _ (Weak.refl _ _) ?_); clear hK_ K_) | clear hK_ K_)
    exact ⟨by simp only [keptS, h, if_true], hxt⟩
  · have e24 : ((now.length : Int) > 24) = False := by simp; omega
    repeat' (first | refine st ?_ | refine pblock_en rfl ?_ | (refine ss ?_; intro K_ hK_) | refine vops_gf rfl ?_ | refine vops_gt rfl ?_ | (refine sk ?_; intro k_ hk_; simp only [go_sem, simprocAttr, e24]; (with_reducible first | refine hk_ _ _ ?_ | refine hk_ _ ?_); clear hk_ k_) | ((first | refine sg ?_ | refine sc ?_); intro x_ y_ hx_ hy_; simp only [go_sem, simprocAttr, e24]; ((first | (with_reducible first | refine hx_ ?_ | refine hy_ ?_) | (with_reducible first | refine bI_split (fun h_ => hx_ ?_) (fun h_ => hy_ ?_) | refine bI_split (fun h_ => hy_ ?_) (fun h_ => hx_ ?_)) <;> try rw [h_]) <;> clear hx_ hy_ x_ y_)) | (with_reducible first | refine callv_pure (clone_c now hn _) ?_) | ((with_reducible first | refine hK_ _ _ ?_ | refine hK_ _ _ _ _ (Weak.refl _ _) ?_); clear hK_ K_) | clear hK_ K_)
    exact ⟨by simp only [keptS, h, if_false]; rfl, hxt⟩
theorem pmay_c (l : List Ar) (hl : l.length < 100000) (H : Heap) : ACalls Try.prog 32 [.s (LV Ar.c l)] H (.s (Bo (mayS l))) H := by
  have hl' : l.length < 1000000 := by omega
  have e24 : ((l.length : Int) ≤ 24) = (l.length ≤ 24) := by simp; omega
  refine acalls_pure te_ok mix Try.func32 rfl Try.call32 (by kernel_rfl) (by kernel_rfl) rfl rfl ?_; simp only [Try.results32]
  repeat' (first | refine st ?_ | refine pblock_en rfl ?_ | (refine ss ?_; intro K_ hK_) | refine vops_gf rfl ?_ | refine vops_gt rfl ?_ | (refine sk ?_; intro k_ hk_; simp only [go_sem, simprocAttr, e24]; (with_reducible first | refine hk_ _ _ ?_ | refine hk_ _ ?_); clear hk_ k_) | ((first | refine sg ?_ | refine sc ?_); intro x_ y_ hx_ hy_; simp only [go_sem, simprocAttr, e24]; ((first | (with_reducible first | refine hx_ ?_ | refine hy_ ?_) | (with_reducible first | refine bI_split (fun h_ => hx_ ?_) (fun h_ => hy_ ?_) | refine bI_split (fun h_ => hy_ ?_) (fun h_ => hx_ ?_)) <;> try rw [h_]) <;> clear hx_ hy_ x_ y_)) | (with_reducible first | refine callv_pure (right_c l hl' _) ?_) | ((with_reducible first | refine hK_ _ _ ?_ | refine hK_ _ _ _ _ (Weak.refl _ _) ?_); clear hK_ K_) | clear hK_ K_)
  all_goals refine ⟨?_, HExt.refl _⟩
  all_goals simp_all [mayS]
theorem pwrong_c (l : List Ar) (hl : l.length < 100000) (c : Ca) (H : Heap) : ACalls Try.prog 28 [.s (LV Ar.c l), .agg c.c] H (.tup [.s (I (pwrongS l c).1), .s (I (pwrongS l c).2.1), .s (I (pwrongS l c).2.2)]) H := by
  have hl' : l.length < 1000000 := by omega
  refine acalls_pure te_ok mix Try.func28 rfl Try.call28 (by kernel_rfl) (by kernel_rfl) rfl rfl ?_; simp only [Try.results28]
  by_cases h0 : mayS l = true
  · by_cases h1 : (rangeS c.a c.l).2.2 = 0
    · have h1' : ((rangeS c.a c.l).2.2 == 0) = true := by simpa using h1
      by_cases h2 : protS c.p = 0
      · have h2' : (protS c.p == 0) = true := by simpa using h2
        repeat' (first | refine st ?_ | refine pblock_en rfl ?_ | (refine ss ?_; intro K_ hK_) | refine vops_gf rfl ?_ | refine vops_gt rfl ?_ | (refine sk ?_; intro k_ hk_; simp only [go_sem, simprocAttr, h0, h1', h2']; (with_reducible first | refine hk_ _ _ ?_ | refine hk_ _ ?_); clear hk_ k_) | ((first | refine sg ?_ | refine sc ?_); intro x_ y_ hx_ hy_; simp only [go_sem, simprocAttr, h0, h1', h2']; ((first | (with_reducible first | refine hx_ ?_ | refine hy_ ?_) | (with_reducible first | refine bI_split (fun h_ => hx_ ?_) (fun h_ => hy_ ?_) | refine bI_split (fun h_ => hy_ ?_) (fun h_ => hx_ ?_)) <;> try rw [h_]) <;> clear hx_ hy_ x_ y_)) | (with_reducible first | refine callv_pure (pmay_c l hl _) ?_ | refine callv_pure (range_c _ _ _) ?_ | refine callv_pure (prot_c _ _) ?_ | refine callv_pure (covered_c l hl' _ _ _) ?_) | ((with_reducible first | refine hK_ _ _ ?_ | refine hK_ _ _ _ _ (Weak.refl _ _) ?_); clear hK_ K_) | clear hK_ K_)
        all_goals refine ⟨?_, hxt⟩
        all_goals simp_all [pwrongS]
      · have h2' : (protS c.p == 0) = false := by simpa using h2
        repeat' (first | refine st ?_ | refine pblock_en rfl ?_ | (refine ss ?_; intro K_ hK_) | refine vops_gf rfl ?_ | refine vops_gt rfl ?_ | (refine sk ?_; intro k_ hk_; simp only [go_sem, simprocAttr, h0, h1', h2']; (with_reducible first | refine hk_ _ _ ?_ | refine hk_ _ ?_); clear hk_ k_) | ((first | refine sg ?_ | refine sc ?_); intro x_ y_ hx_ hy_; simp only [go_sem, simprocAttr, h0, h1', h2']; ((first | (with_reducible first | refine hx_ ?_ | refine hy_ ?_) | (with_reducible first | refine bI_split (fun h_ => hx_ ?_) (fun h_ => hy_ ?_) | refine bI_split (fun h_ => hy_ ?_) (fun h_ => hx_ ?_)) <;> try rw [h_]) <;> clear hx_ hy_ x_ y_)) | (with_reducible first | refine callv_pure (pmay_c l hl _) ?_ | refine callv_pure (range_c _ _ _) ?_ | refine callv_pure (prot_c _ _) ?_ | refine callv_pure (covered_c l hl' _ _ _) ?_) | ((with_reducible first | refine hK_ _ _ ?_ | refine hK_ _ _ _ _ (Weak.refl _ _) ?_); clear hK_ K_) | clear hK_ K_)
        all_goals refine ⟨?_, hxt⟩
        all_goals simp_all [pwrongS]
    · have h1' : ((rangeS c.a c.l).2.2 == 0) = false := by simpa using h1
      repeat' (first | refine st ?_ | refine pblock_en rfl ?_ | (refine ss ?_; intro K_ hK_) | refine vops_gf rfl ?_ | refine vops_gt rfl ?_ | (refine sk ?_; intro k_ hk_; simp only [go_sem, simprocAttr, h0, h1']; (with_reducible first | refine hk_ _ _ ?_ | refine hk_ _ ?_); clear hk_ k_) | ((first | refine sg ?_ | refine sc ?_); intro x_ y_ hx_ hy_; simp only [go_sem, simprocAttr, h0, h1']; ((first | (with_reducible first | refine hx_ ?_ | refine hy_ ?_) | (with_reducible first | refine bI_split (fun h_ => hx_ ?_) (fun h_ => hy_ ?_) | refine bI_split (fun h_ => hy_ ?_) (fun h_ => hx_ ?_)) <;> try rw [h_]) <;> clear hx_ hy_ x_ y_)) | (with_reducible first | refine callv_pure (pmay_c l hl _) ?_ | refine callv_pure (range_c _ _ _) ?_ | refine callv_pure (prot_c _ _) ?_ | refine callv_pure (covered_c l hl' _ _ _) ?_) | ((with_reducible first | refine hK_ _ _ ?_ | refine hK_ _ _ _ _ (Weak.refl _ _) ?_); clear hK_ K_) | clear hK_ K_)
      all_goals refine ⟨?_, hxt⟩
      all_goals simp_all [pwrongS]
  · have h0 : mayS l = false := by simpa using h0
    repeat' (first | refine st ?_ | refine pblock_en rfl ?_ | (refine ss ?_; intro K_ hK_) | refine vops_gf rfl ?_ | refine vops_gt rfl ?_ | (refine sk ?_; intro k_ hk_; simp only [go_sem, simprocAttr, h0]; (with_reducible first | refine hk_ _ _ ?_ | refine hk_ _ ?_); clear hk_ k_) | ((first | refine sg ?_ | refine sc ?_); intro x_ y_ hx_ hy_; simp only [go_sem, simprocAttr, h0]; ((first | (with_reducible first | refine hx_ ?_ | refine hy_ ?_) | (with_reducible first | refine bI_split (fun h_ => hx_ ?_) (fun h_ => hy_ ?_) | refine bI_split (fun h_ => hy_ ?_) (fun h_ => hx_ ?_)) <;> try rw [h_]) <;> clear hx_ hy_ x_ y_)) | (with_reducible first | refine callv_pure (pmay_c l hl _) ?_) | ((with_reducible first | refine hK_ _ _ ?_ | refine hK_ _ _ _ _ (Weak.refl _ _) ?_); clear hK_ K_) | clear hK_ K_)
    all_goals refine ⟨?_, hxt⟩
    all_goals simp_all [pwrongS]
theorem join_len (A C : List Ar) : (joinedS (A ++ C)).length ≤ A.length + C.length := by have := joined_len (A ++ C); simpa using this
theorem set_len (l : List Ar) (lo hi p : Int) : (setS l lo hi p).length ≤ 3 * l.length := by
  unfold setS; split
  · have h1 := ahead_len l lo hi
    have h2 := behind_len l lo hi
    have h3 := within_len l lo hi
    refine Nat.le_trans (joined_len _) ?_
    split <;> simp <;> omega
  · simp
theorem put_len (l : List Ar) (a : Ar) : (putS l a).length ≤ 2 * l.length + 1 := by
  unfold putS; split
  · have h1 := ahead_len l a.s a.e
    have h2 := behind_len l a.s a.e
    refine Nat.le_trans (joined_len _) ?_
    simp; omega
  · simp
theorem cut_len (l : List Ar) (lo hi : Int) : (cutS l lo hi).length ≤ 2 * l.length := by
  unfold cutS; split
  · have h1 := ahead_len l lo hi
    have h2 := behind_len l lo hi
    simp; omega
  · simp
theorem protect_c (l : List Ar) (hl : l.length < 100000) (c : Ca) (H : Heap) : ACalls Try.prog 14 [.s (LV Ar.c l), .agg c.c] H (.tup [.s (LV Ar.c (protectS l c).1), .agg (protectS l c).2.c]) H := by
  have hl' : l.length < 1000000 := by omega
  refine acalls_pure te_ok mix Try.func14 rfl Try.call14 (by kernel_rfl) (by kernel_rfl) rfl rfl ?_; simp only [Try.results14]
  by_cases h0 : (pwrongS l c).2.2 = 0
  · have h0' : ((pwrongS l c).2.2 != 0) = false := by simpa using h0
    have hs := set_len l (pwrongS l c).1 (pwrongS l c).2.1 c.p
    repeat' (first | refine st ?_ | refine pblock_en rfl ?_ | (refine ss ?_; intro K_ hK_) | refine vops_gf rfl ?_ | refine vops_gt rfl ?_ | (refine sk ?_; intro k_ hk_; simp only [go_sem, simprocAttr, h0']; (with_reducible first | refine hk_ _ _ ?_ | refine hk_ _ ?_); clear hk_ k_) | ((first | refine sg ?_ | refine sc ?_); intro x_ y_ hx_ hy_; simp only [go_sem, simprocAttr, h0']; ((first | (with_reducible first | refine hx_ ?_ | refine hy_ ?_) | (with_reducible first | refine bI_split (fun h_ => hx_ ?_) (fun h_ => hy_ ?_) | refine bI_split (fun h_ => hy_ ?_) (fun h_ => hx_ ?_)) <;> try rw [h_]) <;> clear hx_ hy_ x_ y_)) | (with_reducible first | refine callv_pure (pwrong_c l hl _ _) ?_ | refine callv_pure (set_c l hl _ _ _ _) ?_ | refine callv_pure (kept_c l _ hl (by omega) _ _) ?_) | ((with_reducible first | refine hK_ _ _ ?_ | refine hK_ _ _ _ _ (Weak.refl _ _) ?_); clear hK_ K_) | clear hK_ K_)
    exact ⟨by unfold protectS; rw [if_neg (by simpa using h0)], hxt⟩
  · have h0' : ((pwrongS l c).2.2 != 0) = true := by simpa using h0
    repeat' (first | refine st ?_ | refine pblock_en rfl ?_ | (refine ss ?_; intro K_ hK_) | refine vops_gf rfl ?_ | refine vops_gt rfl ?_ | (refine sk ?_; intro k_ hk_; simp only [go_sem, simprocAttr, h0']; (with_reducible first | refine hk_ _ _ ?_ | refine hk_ _ ?_); clear hk_ k_) | ((first | refine sg ?_ | refine sc ?_); intro x_ y_ hx_ hy_; simp only [go_sem, simprocAttr, h0']; ((first | (with_reducible first | refine hx_ ?_ | refine hy_ ?_) | (with_reducible first | refine bI_split (fun h_ => hx_ ?_) (fun h_ => hy_ ?_) | refine bI_split (fun h_ => hy_ ?_) (fun h_ => hx_ ?_)) <;> try rw [h_]) <;> clear hx_ hy_ x_ y_)) | (with_reducible first | refine callv_pure (pwrong_c l hl _ _) ?_ | refine callv_pure (clone_c l hl' _) ?_) | ((with_reducible first | refine hK_ _ _ ?_ | refine hK_ _ _ _ _ (Weak.refl _ _) ?_); clear hK_ K_) | clear hK_ K_)
    exact ⟨by unfold protectS; rw [if_pos (by simpa using h0)]; rfl, hxt⟩
theorem fault_c (l : List Ar) (hl : l.length < 100000) (c : Ca) (H : Heap) : ACalls Try.prog 16 [.s (LV Ar.c l), .agg c.c] H (.agg (faultS l c).c) H := by
  have hl' : l.length < 1000000 := by omega
  refine acalls_pure te_ok mix Try.func16 rfl Try.call16 (by kernel_rfl) (by kernel_rfl) rfl rfl ?_; simp only [Try.results16]
  by_cases h0 : mayS l = true ∧ ¬ c.p < 1 ∧ ¬ c.p > 7
  · obtain ⟨h0, h1, h2⟩ := h0
    cases h3 : findS l c.a with
    | none =>
      repeat' (first | refine st ?_ | refine pblock_en rfl ?_ | (refine ss ?_; intro K_ hK_) | refine vops_gf rfl ?_ | refine vops_gt rfl ?_ | (refine sk ?_; intro k_ hk_; simp only [go_sem, simprocAttr, h0, h1, h2, h3]; (with_reducible first | refine hk_ _ _ ?_ | refine hk_ _ ?_); clear hk_ k_) | ((first | refine sg ?_ | refine sc ?_); intro x_ y_ hx_ hy_; simp only [go_sem, simprocAttr, h0, h1, h2, h3]; ((first | (with_reducible first | refine hx_ ?_ | refine hy_ ?_) | (with_reducible first | refine bI_split (fun h_ => hx_ ?_) (fun h_ => hy_ ?_) | refine bI_split (fun h_ => hy_ ?_) (fun h_ => hx_ ?_)) <;> try rw [h_]) <;> clear hx_ hy_ x_ y_)) | (with_reducible first | refine callv_pure (pmay_c l hl _) ?_ | refine callv_pure (find_c l hl' _ _) ?_) | ((with_reducible first | refine hK_ _ _ ?_ | refine hK_ _ _ _ _ (Weak.refl _ _) ?_); clear hK_ K_) | clear hK_ K_)
      all_goals refine ⟨?_, hxt⟩
      all_goals (simp only [faultS, h0, h1, h2, h3]; rfl)
    | some a =>
      cases h4 : may a c.p
      all_goals
        repeat' (first | refine st ?_ | refine pblock_en rfl ?_ | (refine ss ?_; intro K_ hK_) | refine vops_gf rfl ?_ | refine vops_gt rfl ?_ | (refine sk ?_; intro k_ hk_; simp only [go_sem, simprocAttr, h0, h1, h2, h3, h4]; (with_reducible first | refine hk_ _ _ ?_ | refine hk_ _ ?_); clear hk_ k_) | ((first | refine sg ?_ | refine sc ?_); intro x_ y_ hx_ hy_; simp only [go_sem, simprocAttr, h0, h1, h2, h3, h4]; ((first | (with_reducible first | refine hx_ ?_ | refine hy_ ?_) | (with_reducible first | refine bI_split (fun h_ => hx_ ?_) (fun h_ => hy_ ?_) | refine bI_split (fun h_ => hy_ ?_) (fun h_ => hx_ ?_)) <;> try rw [h_]) <;> clear hx_ hy_ x_ y_)) | (with_reducible first | refine callv_pure (pmay_c l hl _) ?_ | refine callv_pure (find_c l hl' _ _) ?_ | refine callv_pure (may_c _ _ _) ?_ | refine callv_pure (attr_c _ _ _) ?_) | ((with_reducible first | refine hK_ _ _ ?_ | refine hK_ _ _ _ _ (Weak.refl _ _) ?_); clear hK_ K_) | clear hK_ K_)
        all_goals refine ⟨?_, hxt⟩
        all_goals (simp only [faultS, h0, h1, h2, h3, h4]; rfl)
  · have e : faultS l c = ansE 1 := by
      unfold faultS
      rw [if_pos]
      simp only [Bool.or_eq_true, decide_eq_true_eq, Bool.not_eq_true']
      cases hm : mayS l
      · simp
      · simp [hm] at h0 ⊢; omega
    rw [e]
    repeat' (first | refine st ?_ | refine pblock_en rfl ?_ | (refine ss ?_; intro K_ hK_) | refine vops_gf rfl ?_ | refine vops_gt rfl ?_ | (refine sk ?_; intro k_ hk_; simp only [go_sem, simprocAttr]; (with_reducible first | refine hk_ _ _ ?_ | refine hk_ _ ?_); clear hk_ k_) | ((first | refine sg ?_ | refine sc ?_); intro x_ y_ hx_ hy_; simp only [go_sem, simprocAttr]; ((first | (with_reducible first | refine hx_ ?_ | refine hy_ ?_) | (with_reducible first | refine bI_split (fun h_ => hx_ ?_) (fun h_ => hy_ ?_) | refine bI_split (fun h_ => hy_ ?_) (fun h_ => hx_ ?_)) <;> try rw [h_]) <;> clear hx_ hy_ x_ y_)) | (with_reducible first | refine callv_pure (pmay_c l hl _) ?_) | ((with_reducible first | refine hK_ _ _ ?_ | refine hK_ _ _ _ _ (Weak.refl _ _) ?_); clear hK_ K_) | clear hK_ K_)
    all_goals first
      | exact ⟨rfl, hxt⟩
      | (exfalso; simp_all; done)
      | (exfalso; simp_all; omega)
end Go.Abs
/-
  What the references compute: pages.
-/
namespace Go.Abs
set_option linter.unusedVariables false
set_option linter.unusedSimpArgs false
open Go.RowKit

/-- a formed area, in plain words -/
theorem formed_iff (a : Ar) : formed a = true ↔ a.s % 4096 = 0 ∧ a.e % 4096 = 0 ∧ 65536 ≤ a.s ∧ a.e ≤ 2097152 ∧ a.s < a.e ∧ 0 ≤ a.p ∧ a.p ≤ 7 ∧ 0 ≤ a.b ∧ a.b ≤ 9 ∧ (a.b = 0 → a.o = 0) ∧ a.o % 4096 = 0 ∧ 0 ≤ a.o ∧ a.o ≤ 1099511627776 - (a.e - a.s) := by
  unfold formed
  simp only [tmod_zero]
  constructor
  · intro h
    split at h
    · rename_i hc
      obtain ⟨h1, h2, h3, h4, h5, h6, h7, h8, h9⟩ := hc
      have hw : IntKind.i64.wrap (1099511627776 - IntKind.i64.wrap (a.e - a.s)) = 1099511627776 - (a.e - a.s) := by
        rw [wrap_id (n := a.e - a.s) (by omega) (by omega), wrap_id (by omega) (by omega)]
      rw [wr, hw] at h
      split at h
      · rename_i hb
        have : a.o = 0 := by simpa using h
        refine ⟨h1, h2, h3, h4, h5, h6, h7, h8, h9, fun _ => this, ?_, ?_, ?_⟩ <;> omega
      · rename_i hb
        have : a.o % 4096 = 0 ∧ 0 ≤ a.o ∧ a.o ≤ 1099511627776 - (a.e - a.s) := by simpa using h
        exact ⟨h1, h2, h3, h4, h5, h6, h7, h8, h9, fun h => absurd h hb, this⟩
    · cases h
  · rintro ⟨h1, h2, h3, h4, h5, h6, h7, h8, h9, h10, h11, h12, h13⟩
    have hw : IntKind.i64.wrap (1099511627776 - IntKind.i64.wrap (a.e - a.s)) = 1099511627776 - (a.e - a.s) := by
      rw [wrap_id (n := a.e - a.s) (by omega) (by omega), wrap_id (by omega) (by omega)]
    rw [if_pos ⟨h1, h2, h3, h4, h5, h6, h7, h8, h9⟩, wr, hw]
    split
    · rename_i hb; simpa using h10 hb
    · simp; omega

def Pg.at (x : Pg) : At := ⟨x.p, x.sh, x.b, x.o⟩
def pgAt (t : At) : Pg := ⟨true, t.p, t.sh, t.b, t.o⟩
def pattr (a : Ar) (p : Nat) : At := ⟨a.p, a.sh, a.b, if a.b > 0 then a.o + (4096 * (p : Int) - a.s) else 0⟩
def plo (a : Ar) : Nat := (a.s / 4096).toNat
def phi (a : Ar) : Nat := (a.e / 4096).toNat
def upd (s : List Pg) (lo hi : Nat) (f : Nat → Pg → Pg) : List Pg := s.mapIdx fun p x => if lo ≤ p ∧ p < hi then f p x else x
def pz : List Pg := List.replicate 512 Pg.zero
def ofStep (s : List Pg) (a : Ar) : List Pg := upd s (plo a) (phi a) fun p _ => pgAt (pattr a p)
def ofS (l : List Ar) : List Pg := l.foldl ofStep pz
def madeStep (s : List Pg) (a : Ar) : List Pg := if formed a then ofStep s a else s
def madeP (l : List Ar) : List Pg := (l.take 40).foldl madeStep pz
def afterS (a b : At) : Bool := decide ((if a.b > 0 then { a with o := wr (a.o + 4096) } else a) = b)
def newAr (x : Pg) (p : Nat) : Ar := ⟨4096 * (p : Int), 4096 * ((p + 1 : Nat) : Int), x.p, x.sh, x.b, x.o⟩
def pgD (s : List Pg) (p : Nat) : Pg := s.getD p Pg.zero
def listStep (s : List Pg) (out : List Ar) (p : Nat) : List Ar :=
  if (pgD s p).i then
    match out.getLast? with
    | none => [newAr (pgD s p) p]
    | some z => if z.e == 4096 * (p : Int) && afterS (pgD s (p - 1)).at (pgD s p).at then out.dropLast ++ [{ z with e := 4096 * ((p + 1 : Nat) : Int) }] else out ++ [newAr (pgD s p) p]
  else out
def listS (s : List Pg) : List Ar := (List.range' 16 496).foldl (listStep s) []
def madeS (l : List Ar) : List Ar := listS (madeP l)
def someS (l : List Ar) : List Ar := (madeS l).take 24

theorem upd_len (s : List Pg) (lo hi : Nat) (f : Nat → Pg → Pg) : (upd s lo hi f).length = s.length := by simp [upd]
theorem upd_get (s : List Pg) (lo hi : Nat) (f : Nat → Pg → Pg) (p : Nat) : (upd s lo hi f)[p]? = (s[p]?).map fun x => if lo ≤ p ∧ p < hi then f p x else x := by simp [upd, List.getElem?_mapIdx]
theorem upd_zero (s : List Pg) (lo : Nat) (f : Nat → Pg → Pg) : upd s lo lo f = s := by
  apply List.ext_getElem?
  intro p
  rw [upd_get]
  have : ¬ (lo ≤ p ∧ p < lo) := by omega
  simp [this]
theorem upd_succ {s : List Pg} {lo hi : Nat} {f : Nat → Pg → Pg} {x : Pg} (h : lo ≤ hi) (hx : s[hi]? = some x) : (upd s lo hi f).set hi (f hi x) = upd s lo (hi + 1) f := by
  apply List.ext_getElem?
  intro p
  rw [upd_get, List.getElem?_set, upd_get]
  by_cases e : hi = p
  · subst e
    have hl : hi < (upd s lo hi f).length := by rw [upd_len]; exact (List.getElem?_eq_some_iff.1 hx).1
    rw [if_pos rfl, if_pos hl, hx]
    simp [h]
  · rw [if_neg e]
    congr 1
    funext y
    by_cases hc : lo ≤ p ∧ p < hi
    · rw [if_pos hc, if_pos (by omega)]
    · rw [if_neg hc, if_neg (by omega)]
theorem upd_at (s : List Pg) (lo hi : Nat) (f : Nat → Pg → Pg) {x : Pg} (hx : s[hi]? = some x) : (upd s lo hi f)[hi]? = some x := by
  rw [upd_get, hx]; simp
theorem ofStep_len (s : List Pg) (a : Ar) : (ofStep s a).length = s.length := upd_len _ _ _ _
theorem of_len : ∀ (l : List Ar) (s : List Pg), (l.foldl ofStep s).length = s.length
  | [], _ => rfl
  | a :: l, s => by rw [List.foldl_cons, of_len l, ofStep_len]
theorem pz_len : pz.length = 512 := List.length_replicate
theorem ofS_len (l : List Ar) : (ofS l).length = 512 := by rw [ofS, of_len, pz_len]
theorem madeStep_len (s : List Pg) (a : Ar) : (madeStep s a).length = s.length := by
  unfold madeStep; split
  · exact ofStep_len _ _
  · rfl
theorem made_len : ∀ (l : List Ar) (s : List Pg), (l.foldl madeStep s).length = s.length
  | [], _ => rfl
  | a :: l, s => by rw [List.foldl_cons, made_len l, madeStep_len]
theorem madeP_len (l : List Ar) : (madeP l).length = 512 := by rw [madeP, made_len, pz_len]
theorem fold_take {α β : Type} {f : β → α → β} {l : List α} {i : Nat} {a : α} (ha : l[i]? = some a) (b : β) : (l.take (i + 1)).foldl f b = f ((l.take i).foldl f b) a := by
  rw [List.take_add_one, ha]; simp
theorem formed_pages {a : Ar} (h : formed a = true) : 16 ≤ plo a ∧ plo a < phi a ∧ phi a ≤ 512 ∧ a.s = 4096 * (plo a : Int) ∧ a.e = 4096 * (phi a : Int) := by
  obtain ⟨h1, h2, h3, h4, h5, _⟩ := (formed_iff a).1 h
  unfold plo phi
  omega

theorem setAll_full {cs xs : List SV} (h : xs.length = cs.length) : setAll cs 0 xs = xs := by
  have := setAll_mid xs cs [] [] h.symm
  simpa using this
theorem FL_rep {α : Type} (f : α → List SV) (n : Nat) (a : α) : FL f (List.replicate n a) = (List.replicate n (f a)).flatten := by
  rw [FL, List.flatMap_def, List.map_replicate]
end Go.Abs
/-
  samararef06.Formed, Attr, After.
-/
namespace Go.Abs
set_option linter.unusedVariables false
set_option linter.unusedSimpArgs false
open Go.Proofs
set_option maxHeartbeats 4000000

theorem rformed_c (a : Ar) (H : Heap) : ACalls Try.prog 57 [.agg a.c] H (.s (Bo (formed a))) H := by
  refine acalls_pure te_ok mix Try.func57 rfl Try.call57 (by kernel_rfl) (by kernel_rfl) rfl rfl ?_; simp only [Try.results57]
  by_cases hf : formed a = true
  · obtain ⟨h1, h2, h3, h4, h5, h6, h7, h8, h9, h10, h11, h12, h13⟩ := (formed_iff a).1 hf
    have f1 : (a.s ≥ 65536) = True := by simp; omega
    have f2 : (a.e ≤ 2097152) = True := by simp; omega
    have f3 : (a.s < a.e) = True := by simp; omega
    have f4 : (a.s.tmod 4096 == 0) = true := by simpa [tmod_zero] using h1
    have f5 : (a.e.tmod 4096 == 0) = true := by simpa [tmod_zero] using h2
    have f6 : (a.p < 0) = False := by simp; omega
    have f7 : (a.p > 7) = False := by simp; omega
    have f8 : (a.b < 0) = False := by simp; omega
    have f9 : (a.b > 9) = False := by simp; omega
    have f10 : (a.o < 0) = False := by simp; omega
    have f11 : (a.o.tmod 4096 != 0) = false := by simpa [tmod_zero] using h11
    have hw : IntKind.i64.wrap (1099511627776 - IntKind.i64.wrap (a.e - a.s)) = 1099511627776 - (a.e - a.s) := by
      rw [wrap_id (n := a.e - a.s) (by omega) (by omega), wrap_id (by omega) (by omega)]
    have f12 : (a.o ≤ 1099511627776 - (a.e - a.s)) = True := by simp; omega
    rw [hf]
    repeat' (first | refine st ?_ | refine pblock_en rfl ?_ | (refine ss ?_; intro K_ hK_) | refine vops_gf rfl ?_ | refine vops_gt rfl ?_ | (refine sk ?_; intro k_ hk_; simp only [go_sem, simprocAttr, f1, f2, f3, f4, f5, f6, f7, f8, f9, f10, f11, hw, f12]; (with_reducible first | refine hk_ _ _ ?_ | refine hk_ _ ?_); clear hk_ k_) | ((first | refine sg ?_ | refine sc ?_); intro x_ y_ hx_ hy_; simp only [go_sem, simprocAttr, f1, f2, f3, f4, f5, f6, f7, f8, f9, f10, f11, hw, f12]; ((first | (with_reducible first | refine hx_ ?_ | refine hy_ ?_) | (with_reducible first | refine bI_split (fun h_ => hx_ ?_) (fun h_ => hy_ ?_) | refine bI_split (fun h_ => hy_ ?_) (fun h_ => hx_ ?_)) <;> try rw [h_]) <;> clear hx_ hy_ x_ y_)) | ((with_reducible first | refine hK_ _ _ ?_ | refine hK_ _ _ _ _ (Weak.refl _ _) ?_); clear hK_ K_) | clear hK_ K_)
    all_goals first
      | exact ⟨rfl, hxt⟩
      | (exfalso; simp_all; done)
      | (exfalso; simp_all; omega)
  · have hf' : formed a = false := by simpa using hf
    rw [hf']
    have hn := fun h => hf ((formed_iff a).2 h)
    have hw : 65536 ≤ a.s → a.e ≤ 2097152 → a.s < a.e → IntKind.i64.wrap (1099511627776 - IntKind.i64.wrap (a.e - a.s)) = 1099511627776 - (a.e - a.s) := fun _ _ _ => by
      rw [wrap_id (n := a.e - a.s) (by omega) (by omega), wrap_id (by omega) (by omega)]
    repeat' (first | refine st ?_ | refine pblock_en rfl ?_ | (refine ss ?_; intro K_ hK_) | refine vops_gf rfl ?_ | refine vops_gt rfl ?_ | (refine sk ?_; intro k_ hk_; simp only [go_sem, simprocAttr]; (with_reducible first | refine hk_ _ _ ?_ | refine hk_ _ ?_); clear hk_ k_) | ((first | refine sg ?_ | refine sc ?_); intro x_ y_ hx_ hy_; simp only [go_sem, simprocAttr]; ((first | (with_reducible first | refine hx_ ?_ | refine hy_ ?_) | (with_reducible first | refine bI_split (fun h_ => hx_ ?_) (fun h_ => hy_ ?_) | refine bI_split (fun h_ => hy_ ?_) (fun h_ => hx_ ?_)) <;> try rw [h_]) <;> clear hx_ hy_ x_ y_)) | ((with_reducible first | refine hK_ _ _ ?_ | refine hK_ _ _ _ _ (Weak.refl _ _) ?_); clear hK_ K_) | clear hK_ K_)
    all_goals refine ⟨?_, hxt⟩
    all_goals first
      | rfl
      | (simp only [AV.s.injEq, SV.raw.injEq, Value.bool.injEq]
         simp only [bne_iff_ne, beq_iff_eq, ne_eq, decide_eq_true_eq, decide_eq_false_iff_not, bne_eq_false_iff_eq, beq_eq_false_iff_ne, tmod_zero] at *
         first
           | (exfalso; apply hn; omega)
           | (rw [hw (by omega) (by omega) (by omega)]; simp only [decide_eq_false_iff_not]; intro hc; apply hn; omega)
           | (intro hc; apply hn; omega))
theorem rattr_c (a : Ar) (p : Nat) (hf : formed a = true) (h1 : plo a ≤ p) (h2 : p < phi a) (H : Heap) : ACalls Try.prog 55 [.agg a.c, .s (I p)] H (.tup [.agg (pattr a p).c, .s (Bo true)]) H := by
  obtain ⟨g1, g2, g3, g4, g5⟩ := formed_pages hf
  obtain ⟨k1, k2, k3, k4, k5, k6, k7, k8, k9, k10, k11, k12, k13⟩ := (formed_iff a).1 hf
  have e1 : IntKind.i64.wrap (a.s.tdiv 4096) = (plo a : Int) := by rw [Int.tdiv_eq_ediv_of_nonneg (by omega), wrap_id (by omega) (by omega)]; omega
  have e2 : IntKind.i64.wrap (a.e.tdiv 4096) = (phi a : Int) := by rw [Int.tdiv_eq_ediv_of_nonneg (by omega), wrap_id (by omega) (by omega)]; omega
  have f1 : ((p : Int) < (plo a : Int)) = False := by simp; omega
  have f2 : ((p : Int) ≥ (phi a : Int)) = False := by simp; omega
  have e3 : IntKind.i64.wrap ((p : Int) - (plo a : Int)) = (p : Int) - plo a := wrap_id (by omega) (by omega)
  have e4 : IntKind.i64.wrap (4096 * ((p : Int) - plo a)) = 4096 * (p : Int) - a.s := by rw [wrap_id (by omega) (by omega)]; omega
  have e5 : IntKind.i64.wrap (a.o + (4096 * (p : Int) - a.s)) = a.o + (4096 * (p : Int) - a.s) := wrap_id (by omega) (by omega)
  refine acalls_pure te_ok mix Try.func55 rfl Try.call55 (by kernel_rfl) (by kernel_rfl) rfl rfl ?_; simp only [Try.results55]
  by_cases hb : a.b > 0
  · repeat' (first | refine st ?_ | refine pblock_en rfl ?_ | (refine ss ?_; intro K_ hK_) | refine vops_gf rfl ?_ | refine vops_gt rfl ?_ | (refine sk ?_; intro k_ hk_; simp only [go_sem, simprocAttr, e1, e2, e3, e4, e5, f1, f2, hb]; (with_reducible first | refine hk_ _ _ ?_ | refine hk_ _ ?_); clear hk_ k_) | ((first | refine sg ?_ | refine sc ?_); intro x_ y_ hx_ hy_; simp only [go_sem, simprocAttr, e1, e2, e3, e4, e5, f1, f2, hb]; ((first | (with_reducible first | refine hx_ ?_ | refine hy_ ?_) | (with_reducible first | refine bI_split (fun h_ => hx_ ?_) (fun h_ => hy_ ?_) | refine bI_split (fun h_ => hy_ ?_) (fun h_ => hx_ ?_)) <;> try rw [h_]) <;> clear hx_ hy_ x_ y_)) | ((with_reducible first | refine hK_ _ _ ?_ | refine hK_ _ _ _ _ (Weak.refl _ _) ?_); clear hK_ K_) | clear hK_ K_)
    exact ⟨by simp only [pattr, hb, if_true], hxt⟩
  · repeat' (first | refine st ?_ | refine pblock_en rfl ?_ | (refine ss ?_; intro K_ hK_) | refine vops_gf rfl ?_ | refine vops_gt rfl ?_ | (refine sk ?_; intro k_ hk_; simp only [go_sem, simprocAttr, e1, e2, e3, e4, e5, f1, f2, hb]; (with_reducible first | refine hk_ _ _ ?_ | refine hk_ _ ?_); clear hk_ k_) | ((first | refine sg ?_ | refine sc ?_); intro x_ y_ hx_ hy_; simp only [go_sem, simprocAttr, e1, e2, e3, e4, e5, f1, f2, hb]; ((first | (with_reducible first | refine hx_ ?_ | refine hy_ ?_) | (with_reducible first | refine bI_split (fun h_ => hx_ ?_) (fun h_ => hy_ ?_) | refine bI_split (fun h_ => hy_ ?_) (fun h_ => hx_ ?_)) <;> try rw [h_]) <;> clear hx_ hy_ x_ y_)) | ((with_reducible first | refine hK_ _ _ ?_ | refine hK_ _ _ _ _ (Weak.refl _ _) ?_); clear hK_ K_) | clear hK_ K_)
    exact ⟨by simp only [pattr, hb, if_false], hxt⟩
theorem after_c (a b : At) (H : Heap) : ACalls Try.prog 80 [.agg a.c, .agg b.c] H (.s (Bo (afterS a b))) H := by
  refine acalls_pure te_ok mix Try.func80 rfl Try.call80 (by kernel_rfl) (by kernel_rfl) rfl rfl ?_; simp only [Try.results80]
  by_cases hb : a.b > 0
  · repeat' (first | refine st ?_ | refine pblock_en rfl ?_ | (refine ss ?_; intro K_ hK_) | refine vops_gf rfl ?_ | refine vops_gt rfl ?_ | (refine sk ?_; intro k_ hk_; simp only [go_sem, simprocAttr, hb]; (with_reducible first | refine hk_ _ _ ?_ | refine hk_ _ ?_); clear hk_ k_) | ((first | refine sg ?_ | refine sc ?_); intro x_ y_ hx_ hy_; simp only [go_sem, simprocAttr, hb]; ((first | (with_reducible first | refine hx_ ?_ | refine hy_ ?_) | (with_reducible first | refine bI_split (fun h_ => hx_ ?_) (fun h_ => hy_ ?_) | refine bI_split (fun h_ => hy_ ?_) (fun h_ => hx_ ?_)) <;> try rw [h_]) <;> clear hx_ hy_ x_ y_)) | ((with_reducible first | refine hK_ _ _ ?_ | refine hK_ _ _ _ _ (Weak.refl _ _) ?_); clear hK_ K_) | clear hK_ K_)
    exact ⟨by simp only [afterS, hb, if_true], hxt⟩
  · repeat' (first | refine st ?_ | refine pblock_en rfl ?_ | (refine ss ?_; intro K_ hK_) | refine vops_gf rfl ?_ | refine vops_gt rfl ?_ | (refine sk ?_; intro k_ hk_; simp only [go_sem, simprocAttr, hb]; (with_reducible first | refine hk_ _ _ ?_ | refine hk_ _ ?_); clear hk_ k_) | ((first | refine sg ?_ | refine sc ?_); intro x_ y_ hx_ hy_; simp only [go_sem, simprocAttr, hb]; ((first | (with_reducible first | refine hx_ ?_ | refine hy_ ?_) | (with_reducible first | refine bI_split (fun h_ => hx_ ?_) (fun h_ => hy_ ?_) | refine bI_split (fun h_ => hy_ ?_) (fun h_ => hx_ ?_)) <;> try rw [h_]) <;> clear hx_ hy_ x_ y_)) | ((with_reducible first | refine hK_ _ _ ?_ | refine hK_ _ _ _ _ (Weak.refl _ _) ?_); clear hK_ K_) | clear hK_ K_)
    exact ⟨by simp only [afterS, hb, if_false], hxt⟩

end Go.Abs
/-
  samararef07.Of.
-/
namespace Go.Abs
set_option linter.unusedVariables false
set_option linter.unusedSimpArgs false
open Go.Proofs
set_option maxHeartbeats 4000000

theorem bigz_c : bigz0.map SV.raw = FL Pg.c pz := by
  rw [pz, FL_rep, bigz0, List.map_flatten, List.map_replicate]; rfl
theorem sp_len {s : List Pg} (hs : s.length = 512) : (FL Pg.c s).length = 2560 := by rw [FL_len pg_len, hs]
theorem sp_take {s : List Pg} (hs : s.length = 512) : (FL Pg.c s).take 2560 = FL Pg.c s := List.take_of_length_le (by rw [sp_len hs]; exact Nat.le_refl _)

theorem of_c (l : List Ar) (hl : l.length < 100000) (hf : ∀ a ∈ l, formed a = true) (H : Heap) : ACalls Try.prog 25 [.s (LV Ar.c l)] H (.agg (FL Pg.c (ofS l))) H := by
  refine acalls_pure te_ok mix Try.func25 rfl Try.call25 (by kernel_rfl) (by kernel_rfl) rfl (FL_all pg_pers _) ?_
  simp only [Try.results25]
  have hz := bigz_c
  repeat' (first | refine st ?_ | refine pblock_en rfl ?_ | (refine ss ?_; intro K_ hK_) | refine vops_gf rfl ?_ | refine vops_gt rfl ?_ | (refine sk ?_; intro k_ hk_; simp only [go_sem, simprocAttr, hz]; (with_reducible first | refine hk_ _ _ ?_ | refine hk_ _ ?_); clear hk_ k_) | ((first | refine sg ?_ | refine sc ?_); intro x_ y_ hx_ hy_; simp only [go_sem, simprocAttr, hz]; ((first | (with_reducible first | refine hx_ ?_ | refine hy_ ?_) | (with_reducible first | refine bI_split (fun h_ => hx_ ?_) (fun h_ => hy_ ?_) | refine bI_split (fun h_ => hy_ ?_) (fun h_ => hx_ ?_)) <;> try rw [h_]) <;> clear hx_ hy_ x_ y_)) | ((with_reducible first | refine hK_ _ _ ?_ | refine hK_ _ _ _ _ (Weak.refl _ _) ?_); clear hK_ K_) | clear hK_ K_)
  refine vc_range l.length (fun i σ' H' => σ' 0 = .s (LV Ar.c l) ∧ σ' 2 = .s (.ptr H.n 0) ∧ σ' 3 = .s (.ptr (H.n + 1) 0) ∧ σ' 4 = .s (I i) ∧ HExt H H' ∧ H.n + 1 < H'.n ∧ H'.m H.n = some { cells := FL Pg.c pz } ∧ H'.m (H.n + 1) = some { cells := FL Pg.c ((l.take i).foldl ofStep pz) }) ⟨rfl, (by simp only [go_sem, simprocAttr, ]), (by simp only [go_sem, simprocAttr, ]), rfl, hxt, by simp, by simp [push_m], by simp [push_m]⟩ ?_
  rintro i σ' H' hi ⟨h0, h2, h3, h4, hx', hn1, hm0, hm1⟩
  have hn' := hx'.1
  by_cases hil : i < l.length
  · have ha : l[i]? = some l[i] := List.getElem?_eq_getElem hil
    generalize l[i] = a at ha
    have g1 := FL_at ar_len ha
    have hfa := hf a (List.mem_of_getElem? ha)
    obtain ⟨p1, p2, p3, p4, p5⟩ := formed_pages hfa
    have hft := fold_take (f := ofStep) ha pz
    have hsl := of_len (l.take i) pz
    rw [pz_len] at hsl
    generalize (l.take i).foldl ofStep pz = s at hm1 hft hsl
    have e1 : IntKind.i64.wrap (a.s.tdiv 4096) = (plo a : Int) := by rw [Int.tdiv_eq_ediv_of_nonneg (by omega), wrap_id (by omega) (by omega)]; omega
    have e2 : IntKind.i64.wrap (a.e.tdiv 4096) = (phi a : Int) := by rw [Int.tdiv_eq_ediv_of_nonneg (by omega), wrap_id (by omega) (by omega)]; omega
    repeat' (first | refine st ?_ | refine pblock_en rfl ?_ | (refine ss ?_; intro K_ hK_) | refine vops_gf rfl ?_ | refine vops_gt rfl ?_ | (refine sk ?_; intro k_ hk_; simp only [go_sem, simprocAttr, h0, h2, h3, h4, ilt hil, g1, e1, hm0, hm1]; (with_reducible first | refine hk_ _ _ ?_ | refine hk_ _ ?_); clear hk_ k_) | ((first | refine sg ?_ | refine sc ?_); intro x_ y_ hx_ hy_; simp only [go_sem, simprocAttr, h0, h2, h3, h4, ilt hil, g1, e1, hm0, hm1]; ((first | (with_reducible first | refine hx_ ?_ | refine hy_ ?_) | (with_reducible first | refine bI_split (fun h_ => hx_ ?_) (fun h_ => hy_ ?_) | refine bI_split (fun h_ => hy_ ?_) (fun h_ => hx_ ?_)) <;> try rw [h_]) <;> clear hx_ hy_ x_ y_)) | ((with_reducible first | refine hK_ _ _ ?_ | refine hK_ _ _ _ _ (Weak.refl _ _) ?_); clear hK_ K_) | clear hK_ K_)
    refine vc_range (phi a - plo a) (fun j σ2 H2 => σ2 0 = .s (LV Ar.c l) ∧ σ2 2 = .s (.ptr H.n 0) ∧ σ2 3 = .s (.ptr (H.n + 1) 0) ∧ σ2 4 = .s (I i) ∧ σ2 5 = .s (I ((plo a + j : Nat) : Int)) ∧ HExt H H2 ∧ H.n + 1 < H2.n ∧ H2.m H.n = some { cells := FL Pg.c pz } ∧ H2.m (H.n + 1) = some { cells := FL Pg.c (upd s (plo a) (plo a + j) fun p _ => pgAt (pattr a p)) }) ⟨(by simp only [go_sem, simprocAttr, h0]), (by simp only [go_sem, simprocAttr, h2]), (by simp only [go_sem, simprocAttr, h3]), (by simp only [go_sem, simprocAttr, h4]), (by simp only [go_sem, simprocAttr, ]), hx', hn1, hm0, by simp only [Nat.add_zero, upd_zero]; exact hm1⟩ ?_
    clear h0 h2 h3 h4 hx' hn' hn1 hm0 hm1
    rintro j σ2 H2 hj ⟨h0, h2, h3, h4, h5, hx', hn1, hm0, hm1⟩
    have hn' := hx'.1
    by_cases hjl : plo a + j < phi a
    · have hs : s[plo a + j]? = some s[plo a + j] := List.getElem?_eq_getElem (by omega)
      generalize s[plo a + j] = x at hs
      have hcur := upd_at s (plo a) (plo a + j) (fun p _ => pgAt (pattr a p)) hs
      have hul := upd_len s (plo a) (plo a + j) (fun p _ => pgAt (pattr a p))
      have hset := FL_setAll pg_len hcur (pgAt (pattr a (plo a + j)))
      have hsucc := upd_succ (f := fun p _ => pgAt (pattr a p)) (show plo a ≤ plo a + j by omega) hs
      rw [hsucc] at hset
      have hset' : setAll (FL Pg.c (upd s (plo a) (plo a + j) fun p _ => pgAt (pattr a p))) ((plo a + j) * 5) (Pg.c ⟨true, (pattr a (plo a + j)).p, (pattr a (plo a + j)).sh, (pattr a (plo a + j)).b, (pattr a (plo a + j)).o⟩) = FL Pg.c (upd s (plo a) (plo a + j + 1) fun p _ => pgAt (pattr a p)) := hset
      have e3 : IntKind.i64.wrap (((plo a + j : Nat) : Int) + 1) = ((plo a + (j + 1) : Nat) : Int) := by rw [wrap_id] <;> omega
      have f1 : (((plo a + j : Nat) : Int) < (phi a : Int)) = True := eq_true (by omega)
      have f2 : (0 ≤ ((plo a + j : Nat) : Int)) = True := eq_true (by omega)
      have f3 : (((plo a + j : Nat) : Int) < 512) = True := eq_true (by omega)
      have f4 : ((plo a + j) * 5 + 5 ≤ 2560) = True := eq_true (by omega)
      have hsl2 : (FL Pg.c (upd s (plo a) (plo a + j) fun p _ => pgAt (pattr a p))).length = 2560 := sp_len (by rw [hul]; exact hsl)
      have hn0 : H.n < H2.n := by omega
      repeat' (first | refine st ?_ | refine pblock_en rfl ?_ | (refine ss ?_; intro K_ hK_) | refine vops_gf rfl ?_ | refine vops_gt rfl ?_ | (refine sk ?_; intro k_ hk_; simp only [go_sem, simprocAttr, h0, h2, h3, h4, h5, ilt hil, g1, e1, e2, e3, f1, f2, f3, f4, hm0, hm1, nlt hn1, nlt0 hn1, hset', hsl2]; (with_reducible first | refine hk_ _ _ ?_ | refine hk_ _ ?_); clear hk_ k_) | ((first | refine sg ?_ | refine sc ?_); intro x_ y_ hx_ hy_; simp only [go_sem, simprocAttr, h0, h2, h3, h4, h5, ilt hil, g1, e1, e2, e3, f1, f2, f3, f4, hm0, hm1, nlt hn1, nlt0 hn1, hset', hsl2]; ((first | (with_reducible first | refine hx_ ?_ | refine hy_ ?_) | (with_reducible first | refine bI_split (fun h_ => hx_ ?_) (fun h_ => hy_ ?_) | refine bI_split (fun h_ => hy_ ?_) (fun h_ => hx_ ?_)) <;> try rw [h_]) <;> clear hx_ hy_ x_ y_)) | (with_reducible first | refine callv_pure (rattr_c a _ hfa (by omega) (by omega) _) ?_) | ((with_reducible first | refine hK_ _ _ ?_ | refine hK_ _ _ _ _ (Weak.refl _ _) ?_); clear hK_ K_) | clear hK_ K_)
      exact ⟨by omega, (by simp only [go_sem, simprocAttr, h0]), (by simp only [go_sem, simprocAttr, h2]), (by simp only [go_sem, simprocAttr, h3]), (by simp only [go_sem, simprocAttr, h4]), (by simp only [go_sem, simprocAttr, ]), hxt, by simp; omega, by simp [set_m, push_m, nlt0 hn0, nlt hn0, hm0], by simp [set_m, push_m, nlt0 hn1, nlt hn1]⟩
    · have f1 : (((plo a + j : Nat) : Int) < (phi a : Int)) = False := eq_false (by omega)
      have ej : plo a + j = phi a := by omega
      rw [ej] at hm1
      repeat' (first | refine st ?_ | refine pblock_en rfl ?_ | (refine ss ?_; intro K_ hK_) | refine vops_gf rfl ?_ | refine vops_gt rfl ?_ | (refine sk ?_; intro k_ hk_; simp only [go_sem, simprocAttr, h0, h2, h3, h4, h5, ilt hil, g1, e1, e2, f1, wrap_succ (n := i) (by omega)]; (with_reducible first | refine hk_ _ _ ?_ | refine hk_ _ ?_); clear hk_ k_) | ((first | refine sg ?_ | refine sc ?_); intro x_ y_ hx_ hy_; simp only [go_sem, simprocAttr, h0, h2, h3, h4, h5, ilt hil, g1, e1, e2, f1, wrap_succ (n := i) (by omega)]; ((first | (with_reducible first | refine hx_ ?_ | refine hy_ ?_) | (with_reducible first | refine bI_split (fun h_ => hx_ ?_) (fun h_ => hy_ ?_) | refine bI_split (fun h_ => hy_ ?_) (fun h_ => hx_ ?_)) <;> try rw [h_]) <;> clear hx_ hy_ x_ y_)) | ((with_reducible first | refine hK_ _ _ ?_ | refine hK_ _ _ _ _ (Weak.refl _ _) ?_); clear hK_ K_) | clear hK_ K_)
      exact ⟨hil, (by simp only [go_sem, simprocAttr, h0]), (by simp only [go_sem, simprocAttr, h2]), (by simp only [go_sem, simprocAttr, h3]), (by simp only [go_sem, simprocAttr, ]), hx', hn1, hm0, by rw [hft]; exact hm1⟩
  · have ei : i = l.length := by omega
    subst ei
    rw [List.take_length] at hm1
    have hs : (l.foldl ofStep pz).length = 512 := by rw [of_len, pz_len]
    have t1 := sp_take hs
    have t2 := sp_len hs
    have t3 := sp_len pz_len
    have t4 : setAll (FL Pg.c pz) 0 (FL Pg.c (l.foldl ofStep pz)) = FL Pg.c (l.foldl ofStep pz) := setAll_full (by rw [t2, t3])
    repeat' (first | refine st ?_ | refine pblock_en rfl ?_ | (refine ss ?_; intro K_ hK_) | refine vops_gf rfl ?_ | refine vops_gt rfl ?_ | (refine sk ?_; intro k_ hk_; simp only [go_sem, simprocAttr, h0, h2, h3, h4, ige hil, hm0, hm1, t1, t2, t3, t4]; (with_reducible first | refine hk_ _ _ ?_ | refine hk_ _ ?_); clear hk_ k_) | ((first | refine sg ?_ | refine sc ?_); intro x_ y_ hx_ hy_; simp only [go_sem, simprocAttr, h0, h2, h3, h4, ige hil, hm0, hm1, t1, t2, t3, t4]; ((first | (with_reducible first | refine hx_ ?_ | refine hy_ ?_) | (with_reducible first | refine bI_split (fun h_ => hx_ ?_) (fun h_ => hy_ ?_) | refine bI_split (fun h_ => hy_ ?_) (fun h_ => hx_ ?_)) <;> try rw [h_]) <;> clear hx_ hy_ x_ y_)) | ((with_reducible first | refine hK_ _ _ ?_ | refine hK_ _ _ _ _ (Weak.refl _ _) ?_); clear hK_ K_) | clear hK_ K_)
    exact ⟨rfl, hxt⟩
end Go.Abs
/-
  samararef07.Same.
-/
namespace Go.Abs
set_option linter.unusedVariables false
set_option linter.unusedSimpArgs false
open Go.Proofs
set_option maxHeartbeats 4000000

theorem same_c (a b : List Ar) (ha : a.length < 100000) (hb : b.length < 100000) (H : Heap) : ACalls Try.prog 15 [.s (LV Ar.c a), .s (LV Ar.c b)] H (.s (Bo (decide (a = b)))) H := by
  refine acalls_pure te_ok mix Try.func15 rfl Try.call15 (by kernel_rfl) (by kernel_rfl) rfl rfl ?_; simp only [Try.results15]
  by_cases hl : a.length = b.length
  · have f1 : (((a.length : Nat) : Int) != ((b.length : Nat) : Int)) = false := by simp [hl]
    repeat' (first | refine st ?_ | refine pblock_en rfl ?_ | (refine ss ?_; intro K_ hK_) | refine vc_draw' (by kernel_rfl) fun K_ hK_ => ?_ | refine vops_gf rfl ?_ | refine vops_gt rfl ?_ | refine vd_gf rfl ?_ | refine vd_gt rfl ?_ | (refine sk ?_; intro k_ hk_; simp only [go_sem, simprocAttr, f1]; (with_reducible first | refine hk_ _ _ ?_ | refine hk_ _ ?_ | refine hk_ _ _ (by (first | exact HExtR.refl _ | (refine HExtR.push ?_; first | rfl | simp only [go_sem, f1]))) ?_); clear hk_ k_) | ((first | refine sg ?_ | refine sc ?_); intro x_ y_ hx_ hy_; simp only [go_sem, simprocAttr, f1]; ((first | (with_reducible first | refine hx_ ?_ | refine hy_ ?_) | (with_reducible first | refine bI_split (fun h_ => hx_ ?_) (fun h_ => hy_ ?_) | refine bI_split (fun h_ => hy_ ?_) (fun h_ => hx_ ?_)) <;> try rw [h_]) <;> clear hx_ hy_ x_ y_)) | ((with_reducible first | refine hK_ _ _ ?_ | refine hK_ _ _ _ _ (Weak.refl _ _) ?_); clear hK_ K_) | clear hK_ K_)
    refine vc_range a.length (fun i σ' H' => σ' 0 = .s (LV Ar.c a) ∧ σ' 1 = .s (LV Ar.c b) ∧ σ' 5 = .s (I i) ∧ HExt H H' ∧ a.take i = b.take i) ⟨rfl, rfl, rfl, HExt.refl _, rfl⟩ ?_
    rintro i σ' H' hi ⟨h0, h1, h5, hx', he⟩
    by_cases hil : i < a.length
    · have hx : a[i]? = some a[i] := List.getElem?_eq_getElem hil
      generalize a[i] = x at hx
      have hy : b[i]? = some b[i] := List.getElem?_eq_getElem (by omega)
      generalize b[i] = y at hy
      have g1 := FL_at ar_len hx
      have g2 := FL_at ar_len hy
      by_cases hxy : x = y
      · subst hxy
        have e : a.take (i + 1) = b.take (i + 1) := by rw [List.take_add_one, List.take_add_one, he, hx, hy]
        repeat' (first | refine st ?_ | refine pblock_en rfl ?_ | (refine ss ?_; intro K_ hK_) | refine vc_draw' (by kernel_rfl) fun K_ hK_ => ?_ | refine vops_gf rfl ?_ | refine vops_gt rfl ?_ | refine vd_gf rfl ?_ | refine vd_gt rfl ?_ | (refine sk ?_; intro k_ hk_; simp only [go_sem, simprocAttr, h0, h1, h5, ilt hil, ilt (show i < b.length by omega), g1, g2, wrap_succ (n := i) (by omega)]; (with_reducible first | refine hk_ _ _ ?_ | refine hk_ _ ?_ | refine hk_ _ _ (by (first | exact HExtR.refl _ | (refine HExtR.push ?_; first | rfl | simp only [go_sem, h0, h1, h5, ilt hil, ilt (show i < b.length by omega), g1, g2, wrap_succ (n := i) (by omega)]))) ?_); clear hk_ k_) | ((first | refine sg ?_ | refine sc ?_); intro x_ y_ hx_ hy_; simp only [go_sem, simprocAttr, h0, h1, h5, ilt hil, ilt (show i < b.length by omega), g1, g2, wrap_succ (n := i) (by omega)]; ((first | (with_reducible first | refine hx_ ?_ | refine hy_ ?_) | (with_reducible first | refine bI_split (fun h_ => hx_ ?_) (fun h_ => hy_ ?_) | refine bI_split (fun h_ => hy_ ?_) (fun h_ => hx_ ?_)) <;> try rw [h_]) <;> clear hx_ hy_ x_ y_)) | ((with_reducible first | refine hK_ _ _ ?_ | refine hK_ _ _ _ _ (Weak.refl _ _) ?_); clear hK_ K_) | clear hK_ K_)
        exact ⟨hil, (by simp only [go_sem, simprocAttr, h0]), (by simp only [go_sem, simprocAttr, h1]), (by simp only [go_sem, simprocAttr, ]), hx', e⟩
      · have e : ¬ a = b := fun h => by subst h; rw [hx] at hy; injection hy with hy; exact hxy hy
        repeat' (first | refine st ?_ | refine pblock_en rfl ?_ | (refine ss ?_; intro K_ hK_) | refine vc_draw' (by kernel_rfl) fun K_ hK_ => ?_ | refine vops_gf rfl ?_ | refine vops_gt rfl ?_ | refine vd_gf rfl ?_ | refine vd_gt rfl ?_ | (refine sk ?_; intro k_ hk_; simp only [go_sem, simprocAttr, h0, h1, h5, ilt hil, ilt (show i < b.length by omega), g1, g2, hxy]; (with_reducible first | refine hk_ _ _ ?_ | refine hk_ _ ?_ | refine hk_ _ _ (by (first | exact HExtR.refl _ | (refine HExtR.push ?_; first | rfl | simp only [go_sem, h0, h1, h5, ilt hil, ilt (show i < b.length by omega), g1, g2, hxy]))) ?_); clear hk_ k_) | ((first | refine sg ?_ | refine sc ?_); intro x_ y_ hx_ hy_; simp only [go_sem, simprocAttr, h0, h1, h5, ilt hil, ilt (show i < b.length by omega), g1, g2, hxy]; ((first | (with_reducible first | refine hx_ ?_ | refine hy_ ?_) | (with_reducible first | refine bI_split (fun h_ => hx_ ?_) (fun h_ => hy_ ?_) | refine bI_split (fun h_ => hy_ ?_) (fun h_ => hx_ ?_)) <;> try rw [h_]) <;> clear hx_ hy_ x_ y_)) | ((with_reducible first | refine hK_ _ _ ?_ | refine hK_ _ _ _ _ (Weak.refl _ _) ?_); clear hK_ K_) | clear hK_ K_)
        exact ⟨by simp [e], hx'⟩
    · repeat' (first | refine st ?_ | refine pblock_en rfl ?_ | (refine ss ?_; intro K_ hK_) | refine vc_draw' (by kernel_rfl) fun K_ hK_ => ?_ | refine vops_gf rfl ?_ | refine vops_gt rfl ?_ | refine vd_gf rfl ?_ | refine vd_gt rfl ?_ | (refine sk ?_; intro k_ hk_; simp only [go_sem, simprocAttr, h0, h1, h5, ige hil]; (with_reducible first | refine hk_ _ _ ?_ | refine hk_ _ ?_ | refine hk_ _ _ (by (first | exact HExtR.refl _ | (refine HExtR.push ?_; first | rfl | simp only [go_sem, h0, h1, h5, ige hil]))) ?_); clear hk_ k_) | ((first | refine sg ?_ | refine sc ?_); intro x_ y_ hx_ hy_; simp only [go_sem, simprocAttr, h0, h1, h5, ige hil]; ((first | (with_reducible first | refine hx_ ?_ | refine hy_ ?_) | (with_reducible first | refine bI_split (fun h_ => hx_ ?_) (fun h_ => hy_ ?_) | refine bI_split (fun h_ => hy_ ?_) (fun h_ => hx_ ?_)) <;> try rw [h_]) <;> clear hx_ hy_ x_ y_)) | ((with_reducible first | refine hK_ _ _ ?_ | refine hK_ _ _ _ _ (Weak.refl _ _) ?_); clear hK_ K_) | clear hK_ K_)
      have e : a = b := by
        rw [List.take_of_length_le (by omega), List.take_of_length_le (by omega)] at he
        exact he
      exact ⟨by simp [e], hx'⟩
  · have f1 : (((a.length : Nat) : Int) != ((b.length : Nat) : Int)) = true := by simp; omega
    have e : ¬ a = b := fun h => hl (by rw [h])
    repeat' (first | refine st ?_ | refine pblock_en rfl ?_ | (refine ss ?_; intro K_ hK_) | refine vc_draw' (by kernel_rfl) fun K_ hK_ => ?_ | refine vops_gf rfl ?_ | refine vops_gt rfl ?_ | refine vd_gf rfl ?_ | refine vd_gt rfl ?_ | (refine sk ?_; intro k_ hk_; simp only [go_sem, simprocAttr, f1]; (with_reducible first | refine hk_ _ _ ?_ | refine hk_ _ ?_ | refine hk_ _ _ (by (first | exact HExtR.refl _ | (refine HExtR.push ?_; first | rfl | simp only [go_sem, f1]))) ?_); clear hk_ k_) | ((first | refine sg ?_ | refine sc ?_); intro x_ y_ hx_ hy_; simp only [go_sem, simprocAttr, f1]; ((first | (with_reducible first | refine hx_ ?_ | refine hy_ ?_) | (with_reducible first | refine bI_split (fun h_ => hx_ ?_) (fun h_ => hy_ ?_) | refine bI_split (fun h_ => hy_ ?_) (fun h_ => hx_ ?_)) <;> try rw [h_]) <;> clear hx_ hy_ x_ y_)) | ((with_reducible first | refine hK_ _ _ ?_ | refine hK_ _ _ _ _ (Weak.refl _ _) ?_); clear hK_ K_) | clear hK_ K_)
    exact ⟨by simp [e], HExt.refl _⟩
end Go.Abs
