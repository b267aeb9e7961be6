/-
  Joined texts: K9 K10.
-/
import Derived.Test.YtcgogenmikakkaaB8
import Derived.Test.YtcgogenmikakkaaB5
import Derived.Test.YtcgogenmikakkaaB6
/-
  samaralaw10.awake; samararef09.Pages, Size, Range, Backing; samararef07.Touched, Right; samararef10.May.
-/
namespace Go.Abs
set_option linter.unusedVariables false
set_option linter.unusedSimpArgs false
open Go.Proofs
set_option maxHeartbeats 4000000

theorem awake10_v : mapS [] ⟨0, 0, 1, 0, 0, 1, 0, 0, 0⟩ = ([⟨2093056, 2097152, 1, false, 0, 0⟩], ⟨0, 2093056, 0, false, 0, 0⟩) := by decide +kernel
theorem frz_nil {n : Nat} {H : Heap} : Frz n H (.raw (.slice none 0 0)) (.vs 0 []) H := .inr (.inl ⟨rfl, rfl, rfl⟩)
theorem frzL_s {n : Nat} {H : Heap} : ∀ {xs : List SV}, xs.all pers = true → FrzL n H xs xs H
  | [], _ => rfl
  | x :: xs, h => by simp only [List.all_cons, Bool.and_eq_true] at h; exact ⟨H, .inl ⟨rfl, h.1, rfl⟩, frzL_s h.2⟩
theorem awake10_c (H : Heap) : ACalls Try.prog 17 [] H (.s (Bo true)) H := by
  refine acalls_pure te_ok mix Try.func17 rfl Try.call17 (by kernel_rfl) (by kernel_rfl) rfl rfl ?_; simp only [Try.results17]
  repeat' (first | refine st ?_ | refine pblock_en rfl ?_ | (refine ss ?_; intro K_ hK_) | refine vops_gf rfl ?_ | refine vops_gt rfl ?_ | (refine sk ?_; intro k_ hk_; simp only [go_sem, simprocAttr]; (with_reducible first | refine hk_ _ _ ?_ | refine hk_ _ ?_); clear hk_ k_) | ((first | refine sg ?_ | refine sc ?_); intro x_ y_ hx_ hy_; simp only [go_sem, simprocAttr]; ((first | (with_reducible first | refine hx_ ?_ | refine hy_ ?_) | (with_reducible first | refine bI_split (fun h_ => hx_ ?_) (fun h_ => hy_ ?_) | refine bI_split (fun h_ => hy_ ?_) (fun h_ => hx_ ?_)) <;> try rw [h_]) <;> clear hx_ hy_ x_ y_)) | ((with_reducible first | refine hK_ _ _ ?_ | refine hK_ _ _ _ _ (Weak.refl _ _) ?_); clear hK_ K_) | clear hK_ K_)
  refine callv_frz (cs' := [.s (LV Ar.c []), .agg (Ca.c ⟨0, 0, 1, 0, 0, 1, 0, 0, 0⟩)]) (H1 := H) ⟨_, frz_nil, _, (frzL_s (ca_pers _)), rfl⟩ ?_
  refine callv_pure (map_c [] (by simp) _ _) ?_
  rw [awake10_v]
  have q1 : (((1 : Nat) : Int) == 1) = true := rfl
  repeat' (first | refine st ?_ | refine pblock_en rfl ?_ | (refine ss ?_; intro K_ hK_) | refine vops_gf rfl ?_ | refine vops_gt rfl ?_ | (refine sk ?_; intro k_ hk_; simp only [go_sem, simprocAttr, q1, beq_self_eq_true]; (with_reducible first | refine hk_ _ _ ?_ | refine hk_ _ ?_); clear hk_ k_) | ((first | refine sg ?_ | refine sc ?_); intro x_ y_ hx_ hy_; simp only [go_sem, simprocAttr, q1, beq_self_eq_true]; ((first | (with_reducible first | refine hx_ ?_ | refine hy_ ?_) | (with_reducible first | refine bI_split (fun h_ => hx_ ?_) (fun h_ => hy_ ?_) | refine bI_split (fun h_ => hy_ ?_) (fun h_ => hx_ ?_)) <;> try rw [h_]) <;> clear hx_ hy_ x_ y_)) | ((with_reducible first | refine hK_ _ _ ?_ | refine hK_ _ _ _ _ (Weak.refl _ _) ?_); clear hK_ K_) | clear hK_ K_)
  exact ⟨rfl, hxt⟩

theorem pages_c (n : Int) (h0 : 0 ≤ n) (h1 : n ≤ 2031616) (H : Heap) : ACalls Try.prog 74 [.s (I n)] H (.s (I ((n + 4095) / 4096))) H := by
  refine acalls_pure te_ok mix Try.func74 rfl Try.call74 (by kernel_rfl) (by kernel_rfl) rfl rfl ?_; simp only [Try.results74]
  repeat' (first | refine st ?_ | refine pblock_en rfl ?_ | (refine ss ?_; intro K_ hK_) | refine vops_gf rfl ?_ | refine vops_gt rfl ?_ | (refine sk ?_; intro k_ hk_; simp only [go_sem, simprocAttr]; (with_reducible first | refine hk_ _ _ ?_ | refine hk_ _ ?_); clear hk_ k_) | ((first | refine sg ?_ | refine sc ?_); intro x_ y_ hx_ hy_; simp only [go_sem, simprocAttr]; ((first | (with_reducible first | refine hx_ ?_ | refine hy_ ?_) | (with_reducible first | refine bI_split (fun h_ => hx_ ?_) (fun h_ => hy_ ?_) | refine bI_split (fun h_ => hy_ ?_) (fun h_ => hx_ ?_)) <;> try rw [h_]) <;> clear hx_ hy_ x_ y_)) | ((with_reducible first | refine hK_ _ _ ?_ | refine hK_ _ _ _ _ (Weak.refl _ _) ?_); clear hK_ K_) | clear hK_ K_)
  refine vc_range ((n + 4095) / 4096).toNat (fun i σ' H' => σ' 0 = .s (I n) ∧ σ' 3 = .s (I i) ∧ HExt H H') ⟨rfl, rfl, HExt.refl _⟩ ?_
  rintro i σ' H' hi ⟨s0, s3, hx'⟩
  have hn' := hx'.1
  have w : IntKind.i64.wrap (4096 * (i : Int)) = 4096 * i := wrap_id (by omega) (by omega)
  by_cases hil : i < ((n + 4095) / 4096).toNat
  · have f : (4096 * (i : Int) < n) = True := eq_true (by omega)
    repeat' (first | refine st ?_ | refine pblock_en rfl ?_ | (refine ss ?_; intro K_ hK_) | refine vops_gf rfl ?_ | refine vops_gt rfl ?_ | (refine sk ?_; intro k_ hk_; simp only [go_sem, simprocAttr, s0, s3, w, f, wrap_succ (n := i) (by omega)]; (with_reducible first | refine hk_ _ _ ?_ | refine hk_ _ ?_); clear hk_ k_) | ((first | refine sg ?_ | refine sc ?_); intro x_ y_ hx_ hy_; simp only [go_sem, simprocAttr, s0, s3, w, f, wrap_succ (n := i) (by omega)]; ((first | (with_reducible first | refine hx_ ?_ | refine hy_ ?_) | (with_reducible first | refine bI_split (fun h_ => hx_ ?_) (fun h_ => hy_ ?_) | refine bI_split (fun h_ => hy_ ?_) (fun h_ => hx_ ?_)) <;> try rw [h_]) <;> clear hx_ hy_ x_ y_)) | ((with_reducible first | refine hK_ _ _ ?_ | refine hK_ _ _ _ _ (Weak.refl _ _) ?_); clear hK_ K_) | clear hK_ K_)
    exact ⟨hil, (by simp only [go_sem, simprocAttr, s0]), (by simp only [go_sem, simprocAttr, ]), hxt⟩
  · have f : (4096 * (i : Int) < n) = False := eq_false (by omega)
    have e : (i : Int) = (n + 4095) / 4096 := by omega
    repeat' (first | refine st ?_ | refine pblock_en rfl ?_ | (refine ss ?_; intro K_ hK_) | refine vops_gf rfl ?_ | refine vops_gt rfl ?_ | (refine sk ?_; intro k_ hk_; simp only [go_sem, simprocAttr, s0, s3, w, f]; (with_reducible first | refine hk_ _ _ ?_ | refine hk_ _ ?_); clear hk_ k_) | ((first | refine sg ?_ | refine sc ?_); intro x_ y_ hx_ hy_; simp only [go_sem, simprocAttr, s0, s3, w, f]; ((first | (with_reducible first | refine hx_ ?_ | refine hy_ ?_) | (with_reducible first | refine bI_split (fun h_ => hx_ ?_) (fun h_ => hy_ ?_) | refine bI_split (fun h_ => hy_ ?_) (fun h_ => hx_ ?_)) <;> try rw [h_]) <;> clear hx_ hy_ x_ y_)) | ((with_reducible first | refine hK_ _ _ ?_ | refine hK_ _ _ _ _ (Weak.refl _ _) ?_); clear hK_ K_) | clear hK_ K_)
    exact ⟨by rw [e], hxt⟩
theorem rsize_c (n : Int) (H : Heap) : ACalls Try.prog 40 [.s (I n)] H (.tup [.s (I (sizeS n).1), .s (I (sizeS n).2)]) H := by
  refine acalls_pure te_ok mix Try.func40 rfl Try.call40 (by kernel_rfl) (by kernel_rfl) rfl rfl ?_; simp only [Try.results40]
  by_cases h0 : n = 0
  · have e : sizeS n = (0, 3) := by simp [sizeS, h0]
    rw [e]
    repeat' (first | refine st ?_ | refine pblock_en rfl ?_ | (refine ss ?_; intro K_ hK_) | refine vops_gf rfl ?_ | refine vops_gt rfl ?_ | (refine sk ?_; intro k_ hk_; simp only [go_sem, simprocAttr, beq_t h0]; (with_reducible first | refine hk_ _ _ ?_ | refine hk_ _ ?_); clear hk_ k_) | ((first | refine sg ?_ | refine sc ?_); intro x_ y_ hx_ hy_; simp only [go_sem, simprocAttr, beq_t h0]; ((first | (with_reducible first | refine hx_ ?_ | refine hy_ ?_) | (with_reducible first | refine bI_split (fun h_ => hx_ ?_) (fun h_ => hy_ ?_) | refine bI_split (fun h_ => hy_ ?_) (fun h_ => hx_ ?_)) <;> try rw [h_]) <;> clear hx_ hy_ x_ y_)) | ((with_reducible first | refine hK_ _ _ ?_ | refine hK_ _ _ _ _ (Weak.refl _ _) ?_); clear hK_ K_) | clear hK_ K_)
    exact ⟨rfl, hxt⟩
  by_cases h1 : n < 0 ∨ n > 2031616
  · have e : sizeS n = (0, 4) := by simp [sizeS, h0, h1]
    rw [e]
    repeat' (first | refine st ?_ | refine pblock_en rfl ?_ | (refine ss ?_; intro K_ hK_) | refine vops_gf rfl ?_ | refine vops_gt rfl ?_ | (refine sk ?_; intro k_ hk_; simp only [go_sem, simprocAttr, beq_f h0]; (with_reducible first | refine hk_ _ _ ?_ | refine hk_ _ ?_); clear hk_ k_) | ((first | refine sg ?_ | refine sc ?_); intro x_ y_ hx_ hy_; simp only [go_sem, simprocAttr, beq_f h0]; ((first | (with_reducible first | refine hx_ ?_ | refine hy_ ?_) | (with_reducible first | refine bI_split (fun h_ => hx_ ?_) (fun h_ => hy_ ?_) | refine bI_split (fun h_ => hy_ ?_) (fun h_ => hx_ ?_)) <;> try rw [h_]) <;> clear hx_ hy_ x_ y_)) | ((with_reducible first | refine hK_ _ _ ?_ | refine hK_ _ _ _ _ (Weak.refl _ _) ?_); clear hK_ K_) | clear hK_ K_)
    all_goals first
      | exact ⟨rfl, hxt⟩
      | (exfalso; simp_all; omega)
  · have e : sizeS n = ((n + 4095) / 4096 * 4096, 0) := by simp [sizeS, h0, h1]
    have f1 : (n < 0) = False := eq_false (by omega)
    have f2 : (n > 2031616) = False := eq_false (by omega)
    have w : IntKind.i64.wrap (4096 * ((n + 4095) / 4096)) = (n + 4095) / 4096 * 4096 := by rw [wrap_id (by omega) (by omega)]; omega
    rw [e]
    repeat' (first | refine st ?_ | refine pblock_en rfl ?_ | (refine ss ?_; intro K_ hK_) | refine vops_gf rfl ?_ | refine vops_gt rfl ?_ | (refine sk ?_; intro k_ hk_; simp only [go_sem, simprocAttr, beq_f h0, f1, f2, w]; (with_reducible first | refine hk_ _ _ ?_ | refine hk_ _ ?_); clear hk_ k_) | ((first | refine sg ?_ | refine sc ?_); intro x_ y_ hx_ hy_; simp only [go_sem, simprocAttr, beq_f h0, f1, f2, w]; ((first | (with_reducible first | refine hx_ ?_ | refine hy_ ?_) | (with_reducible first | refine bI_split (fun h_ => hx_ ?_) (fun h_ => hy_ ?_) | refine bI_split (fun h_ => hy_ ?_) (fun h_ => hx_ ?_)) <;> try rw [h_]) <;> clear hx_ hy_ x_ y_)) | (with_reducible first | refine callv_pure (pages_c n (by omega) (by omega) _) ?_) | ((with_reducible first | refine hK_ _ _ ?_ | refine hK_ _ _ _ _ (Weak.refl _ _) ?_); clear hK_ K_) | clear hK_ K_)
    exact ⟨rfl, hxt⟩
theorem rrange_c (a n : Int) (H : Heap) : ACalls Try.prog 46 [.s (I a), .s (I n)] H (.tup [.s (I (rangeS a n).1), .s (I (rangeS a n).2.1), .s (I (rangeS a n).2.2)]) H := by
  have hb := size_bd n
  refine acalls_pure te_ok mix Try.func46 rfl Try.call46 (by kernel_rfl) (by kernel_rfl) rfl rfl ?_; simp only [Try.results46]
  by_cases h0 : a % 4096 = 0
  case neg =>
    have h0' : (a.tmod 4096 != 0) = true := by simpa [tmod_zero] using h0
    have e : rangeS a n = (0, 0, 2) := by simp [rangeS, h0]
    rw [e]
    repeat' (first | refine st ?_ | refine pblock_en rfl ?_ | (refine ss ?_; intro K_ hK_) | refine vops_gf rfl ?_ | refine vops_gt rfl ?_ | (refine sk ?_; intro k_ hk_; simp only [go_sem, simprocAttr, h0']; (with_reducible first | refine hk_ _ _ ?_ | refine hk_ _ ?_); clear hk_ k_) | ((first | refine sg ?_ | refine sc ?_); intro x_ y_ hx_ hy_; simp only [go_sem, simprocAttr, h0']; ((first | (with_reducible first | refine hx_ ?_ | refine hy_ ?_) | (with_reducible first | refine bI_split (fun h_ => hx_ ?_) (fun h_ => hy_ ?_) | refine bI_split (fun h_ => hy_ ?_) (fun h_ => hx_ ?_)) <;> try rw [h_]) <;> clear hx_ hy_ x_ y_)) | ((with_reducible first | refine hK_ _ _ ?_ | refine hK_ _ _ _ _ (Weak.refl _ _) ?_); clear hK_ K_) | clear hK_ K_)
    exact ⟨rfl, hxt⟩
  have h0' : (a.tmod 4096 != 0) = false := by simpa [tmod_zero] using h0
  by_cases h1 : (sizeS n).2 = 0
  case neg =>
    have e : rangeS a n = (0, 0, (sizeS n).2) := by simp [rangeS, h0, h1]
    rw [e]
    repeat' (first | refine st ?_ | refine pblock_en rfl ?_ | (refine ss ?_; intro K_ hK_) | refine vops_gf rfl ?_ | refine vops_gt rfl ?_ | (refine sk ?_; intro k_ hk_; simp only [go_sem, simprocAttr, h0', bne_t h1]; (with_reducible first | refine hk_ _ _ ?_ | refine hk_ _ ?_); clear hk_ k_) | ((first | refine sg ?_ | refine sc ?_); intro x_ y_ hx_ hy_; simp only [go_sem, simprocAttr, h0', bne_t h1]; ((first | (with_reducible first | refine hx_ ?_ | refine hy_ ?_) | (with_reducible first | refine bI_split (fun h_ => hx_ ?_) (fun h_ => hy_ ?_) | refine bI_split (fun h_ => hy_ ?_) (fun h_ => hx_ ?_)) <;> try rw [h_]) <;> clear hx_ hy_ x_ y_)) | (with_reducible first | refine callv_pure (rsize_c _ _) ?_) | ((with_reducible first | refine hK_ _ _ ?_ | refine hK_ _ _ _ _ (Weak.refl _ _) ?_); clear hK_ K_) | clear hK_ K_)
    exact ⟨rfl, hxt⟩
  by_cases h2 : a < 65536 ∨ a > 2097152 - (sizeS n).1
  · have e : rangeS a n = (0, 0, 4) := by simp [rangeS, h0, h1, h2]
    rw [e]
    by_cases h3 : a < 65536
    · repeat' (first | refine st ?_ | refine pblock_en rfl ?_ | (refine ss ?_; intro K_ hK_) | refine vops_gf rfl ?_ | refine vops_gt rfl ?_ | (refine sk ?_; intro k_ hk_; simp only [go_sem, simprocAttr, h0', bne_f h1, eq_true h3]; (with_reducible first | refine hk_ _ _ ?_ | refine hk_ _ ?_); clear hk_ k_) | ((first | refine sg ?_ | refine sc ?_); intro x_ y_ hx_ hy_; simp only [go_sem, simprocAttr, h0', bne_f h1, eq_true h3]; ((first | (with_reducible first | refine hx_ ?_ | refine hy_ ?_) | (with_reducible first | refine bI_split (fun h_ => hx_ ?_) (fun h_ => hy_ ?_) | refine bI_split (fun h_ => hy_ ?_) (fun h_ => hx_ ?_)) <;> try rw [h_]) <;> clear hx_ hy_ x_ y_)) | (with_reducible first | refine callv_pure (rsize_c _ _) ?_) | ((with_reducible first | refine hK_ _ _ ?_ | refine hK_ _ _ _ _ (Weak.refl _ _) ?_); clear hK_ K_) | clear hK_ K_)
      exact ⟨rfl, hxt⟩
    by_cases h4 : a > 2097152
    · repeat' (first | refine st ?_ | refine pblock_en rfl ?_ | (refine ss ?_; intro K_ hK_) | refine vops_gf rfl ?_ | refine vops_gt rfl ?_ | (refine sk ?_; intro k_ hk_; simp only [go_sem, simprocAttr, h0', bne_f h1, eq_false h3, eq_true h4]; (with_reducible first | refine hk_ _ _ ?_ | refine hk_ _ ?_); clear hk_ k_) | ((first | refine sg ?_ | refine sc ?_); intro x_ y_ hx_ hy_; simp only [go_sem, simprocAttr, h0', bne_f h1, eq_false h3, eq_true h4]; ((first | (with_reducible first | refine hx_ ?_ | refine hy_ ?_) | (with_reducible first | refine bI_split (fun h_ => hx_ ?_) (fun h_ => hy_ ?_) | refine bI_split (fun h_ => hy_ ?_) (fun h_ => hx_ ?_)) <;> try rw [h_]) <;> clear hx_ hy_ x_ y_)) | (with_reducible first | refine callv_pure (rsize_c _ _) ?_) | ((with_reducible first | refine hK_ _ _ ?_ | refine hK_ _ _ _ _ (Weak.refl _ _) ?_); clear hK_ K_) | clear hK_ K_)
      exact ⟨rfl, hxt⟩
    have w : IntKind.i64.wrap (a + (sizeS n).1) = a + (sizeS n).1 := wrap_id (by omega) (by omega)
    have h5 : (a + (sizeS n).1 > 2097152) = True := eq_true (by omega)
    repeat' (first | refine st ?_ | refine pblock_en rfl ?_ | (refine ss ?_; intro K_ hK_) | refine vops_gf rfl ?_ | refine vops_gt rfl ?_ | (refine sk ?_; intro k_ hk_; simp only [go_sem, simprocAttr, h0', bne_f h1, eq_false h3, eq_false h4, w, h5]; (with_reducible first | refine hk_ _ _ ?_ | refine hk_ _ ?_); clear hk_ k_) | ((first | refine sg ?_ | refine sc ?_); intro x_ y_ hx_ hy_; simp only [go_sem, simprocAttr, h0', bne_f h1, eq_false h3, eq_false h4, w, h5]; ((first | (with_reducible first | refine hx_ ?_ | refine hy_ ?_) | (with_reducible first | refine bI_split (fun h_ => hx_ ?_) (fun h_ => hy_ ?_) | refine bI_split (fun h_ => hy_ ?_) (fun h_ => hx_ ?_)) <;> try rw [h_]) <;> clear hx_ hy_ x_ y_)) | (with_reducible first | refine callv_pure (rsize_c _ _) ?_) | ((with_reducible first | refine hK_ _ _ ?_ | refine hK_ _ _ _ _ (Weak.refl _ _) ?_); clear hK_ K_) | clear hK_ K_)
    exact ⟨rfl, hxt⟩
  · have e : rangeS a n = (a, a + (sizeS n).1, 0) := by simp [rangeS, h0, h1, h2]
    have f1 : (a < 65536) = False := eq_false (by omega)
    have f2 : (a > 2097152) = False := eq_false (by omega)
    have w : IntKind.i64.wrap (a + (sizeS n).1) = a + (sizeS n).1 := wrap_id (by omega) (by omega)
    have f3 : (a + (sizeS n).1 > 2097152) = False := eq_false (by omega)
    rw [e]
    repeat' (first | refine st ?_ | refine pblock_en rfl ?_ | (refine ss ?_; intro K_ hK_) | refine vops_gf rfl ?_ | refine vops_gt rfl ?_ | (refine sk ?_; intro k_ hk_; simp only [go_sem, simprocAttr, h0', bne_f h1, f1, f2, w, f3]; (with_reducible first | refine hk_ _ _ ?_ | refine hk_ _ ?_); clear hk_ k_) | ((first | refine sg ?_ | refine sc ?_); intro x_ y_ hx_ hy_; simp only [go_sem, simprocAttr, h0', bne_f h1, f1, f2, w, f3]; ((first | (with_reducible first | refine hx_ ?_ | refine hy_ ?_) | (with_reducible first | refine bI_split (fun h_ => hx_ ?_) (fun h_ => hy_ ?_) | refine bI_split (fun h_ => hy_ ?_) (fun h_ => hx_ ?_)) <;> try rw [h_]) <;> clear hx_ hy_ x_ y_)) | (with_reducible first | refine callv_pure (rsize_c _ _) ?_) | ((with_reducible first | refine hK_ _ _ ?_ | refine hK_ _ _ _ _ (Weak.refl _ _) ?_); clear hK_ K_) | clear hK_ K_)
    exact ⟨rfl, hxt⟩
theorem rbacking_c (b o size : Int) (h0 : 0 ≤ size) (h1 : size ≤ 2031616) (H : Heap) : ACalls Try.prog 41 [.s (I b), .s (I o), .s (I size)] H (.s (I (backS b o size))) H := by
  have w0 : IntKind.i64.wrap (1099511627776 - size) = 1099511627776 - size := wrap_id (by omega) (by omega)
  refine acalls_pure te_ok mix Try.func41 rfl Try.call41 (by kernel_rfl) (by kernel_rfl) rfl rfl ?_; simp only [Try.results41]
  by_cases ha : b < 0 ∨ b > 9 ∨ (b = 0 ∧ o ≠ 0)
  · have e : backS b o size = 1 := by simp [backS, ha]
    rw [e]
    repeat' (first | refine st ?_ | refine pblock_en rfl ?_ | (refine ss ?_; intro K_ hK_) | refine vops_gf rfl ?_ | refine vops_gt rfl ?_ | (refine sk ?_; intro k_ hk_; simp only [go_sem, simprocAttr]; (with_reducible first | refine hk_ _ _ ?_ | refine hk_ _ ?_); clear hk_ k_) | ((first | refine sg ?_ | refine sc ?_); intro x_ y_ hx_ hy_; simp only [go_sem, simprocAttr]; ((first | (with_reducible first | refine hx_ ?_ | refine hy_ ?_) | (with_reducible first | refine bI_split (fun h_ => hx_ ?_) (fun h_ => hy_ ?_) | refine bI_split (fun h_ => hy_ ?_) (fun h_ => hx_ ?_)) <;> try rw [h_]) <;> clear hx_ hy_ x_ y_)) | ((with_reducible first | refine hK_ _ _ ?_ | refine hK_ _ _ _ _ (Weak.refl _ _) ?_); clear hK_ K_) | clear hK_ K_)
    all_goals first
      | exact ⟨rfl, hxt⟩
      | (exfalso; simp_all; done)
      | (exfalso; simp_all; omega)
  have f1 : (b < 0) = False := eq_false (by omega)
  have f2 : (b > 9) = False := eq_false (by omega)
  have f3 : b = 0 → (o != 0) = false := fun h => by simp; omega
  by_cases hm : o % 4096 = 0
  case neg =>
    have e : backS b o size = 2 := by simp [backS, ha, hm]
    have hm' : (o.tmod 4096 != 0) = true := by simpa [tmod_zero] using hm
    rw [e]
    by_cases hb : b = 0
    · repeat' (first | refine st ?_ | refine pblock_en rfl ?_ | (refine ss ?_; intro K_ hK_) | refine vops_gf rfl ?_ | refine vops_gt rfl ?_ | (refine sk ?_; intro k_ hk_; simp only [go_sem, simprocAttr, f1, f2, beq_t hb, f3 hb, hm']; (with_reducible first | refine hk_ _ _ ?_ | refine hk_ _ ?_); clear hk_ k_) | ((first | refine sg ?_ | refine sc ?_); intro x_ y_ hx_ hy_; simp only [go_sem, simprocAttr, f1, f2, beq_t hb, f3 hb, hm']; ((first | (with_reducible first | refine hx_ ?_ | refine hy_ ?_) | (with_reducible first | refine bI_split (fun h_ => hx_ ?_) (fun h_ => hy_ ?_) | refine bI_split (fun h_ => hy_ ?_) (fun h_ => hx_ ?_)) <;> try rw [h_]) <;> clear hx_ hy_ x_ y_)) | ((with_reducible first | refine hK_ _ _ ?_ | refine hK_ _ _ _ _ (Weak.refl _ _) ?_); clear hK_ K_) | clear hK_ K_)
      exact ⟨rfl, hxt⟩
    · repeat' (first | refine st ?_ | refine pblock_en rfl ?_ | (refine ss ?_; intro K_ hK_) | refine vops_gf rfl ?_ | refine vops_gt rfl ?_ | (refine sk ?_; intro k_ hk_; simp only [go_sem, simprocAttr, f1, f2, beq_f hb, hm']; (with_reducible first | refine hk_ _ _ ?_ | refine hk_ _ ?_); clear hk_ k_) | ((first | refine sg ?_ | refine sc ?_); intro x_ y_ hx_ hy_; simp only [go_sem, simprocAttr, f1, f2, beq_f hb, hm']; ((first | (with_reducible first | refine hx_ ?_ | refine hy_ ?_) | (with_reducible first | refine bI_split (fun h_ => hx_ ?_) (fun h_ => hy_ ?_) | refine bI_split (fun h_ => hy_ ?_) (fun h_ => hx_ ?_)) <;> try rw [h_]) <;> clear hx_ hy_ x_ y_)) | ((with_reducible first | refine hK_ _ _ ?_ | refine hK_ _ _ _ _ (Weak.refl _ _) ?_); clear hK_ K_) | clear hK_ K_)
      exact ⟨rfl, hxt⟩
  have hm' : (o.tmod 4096 != 0) = false := by simpa [tmod_zero] using hm
  by_cases hr : o < 0 ∨ o > 1099511627776 - size
  · have e : backS b o size = 4 := by simp [backS, ha, hm, wr, w0, hr]
    rw [e]
    by_cases h3 : o < 0
    · by_cases hb : b = 0
      · repeat' (first | refine st ?_ | refine pblock_en rfl ?_ | (refine ss ?_; intro K_ hK_) | refine vops_gf rfl ?_ | refine vops_gt rfl ?_ | (refine sk ?_; intro k_ hk_; simp only [go_sem, simprocAttr, f1, f2, beq_t hb, f3 hb, hm', eq_true h3]; (with_reducible first | refine hk_ _ _ ?_ | refine hk_ _ ?_); clear hk_ k_) | ((first | refine sg ?_ | refine sc ?_); intro x_ y_ hx_ hy_; simp only [go_sem, simprocAttr, f1, f2, beq_t hb, f3 hb, hm', eq_true h3]; ((first | (with_reducible first | refine hx_ ?_ | refine hy_ ?_) | (with_reducible first | refine bI_split (fun h_ => hx_ ?_) (fun h_ => hy_ ?_) | refine bI_split (fun h_ => hy_ ?_) (fun h_ => hx_ ?_)) <;> try rw [h_]) <;> clear hx_ hy_ x_ y_)) | ((with_reducible first | refine hK_ _ _ ?_ | refine hK_ _ _ _ _ (Weak.refl _ _) ?_); clear hK_ K_) | clear hK_ K_)
        exact ⟨rfl, hxt⟩
      · repeat' (first | refine st ?_ | refine pblock_en rfl ?_ | (refine ss ?_; intro K_ hK_) | refine vops_gf rfl ?_ | refine vops_gt rfl ?_ | (refine sk ?_; intro k_ hk_; simp only [go_sem, simprocAttr, f1, f2, beq_f hb, hm', eq_true h3]; (with_reducible first | refine hk_ _ _ ?_ | refine hk_ _ ?_); clear hk_ k_) | ((first | refine sg ?_ | refine sc ?_); intro x_ y_ hx_ hy_; simp only [go_sem, simprocAttr, f1, f2, beq_f hb, hm', eq_true h3]; ((first | (with_reducible first | refine hx_ ?_ | refine hy_ ?_) | (with_reducible first | refine bI_split (fun h_ => hx_ ?_) (fun h_ => hy_ ?_) | refine bI_split (fun h_ => hy_ ?_) (fun h_ => hx_ ?_)) <;> try rw [h_]) <;> clear hx_ hy_ x_ y_)) | ((with_reducible first | refine hK_ _ _ ?_ | refine hK_ _ _ _ _ (Weak.refl _ _) ?_); clear hK_ K_) | clear hK_ K_)
        exact ⟨rfl, hxt⟩
    by_cases h4 : o > 1099511627776
    · by_cases hb : b = 0
      · repeat' (first | refine st ?_ | refine pblock_en rfl ?_ | (refine ss ?_; intro K_ hK_) | refine vops_gf rfl ?_ | refine vops_gt rfl ?_ | (refine sk ?_; intro k_ hk_; simp only [go_sem, simprocAttr, f1, f2, beq_t hb, f3 hb, hm', eq_false h3, eq_true h4]; (with_reducible first | refine hk_ _ _ ?_ | refine hk_ _ ?_); clear hk_ k_) | ((first | refine sg ?_ | refine sc ?_); intro x_ y_ hx_ hy_; simp only [go_sem, simprocAttr, f1, f2, beq_t hb, f3 hb, hm', eq_false h3, eq_true h4]; ((first | (with_reducible first | refine hx_ ?_ | refine hy_ ?_) | (with_reducible first | refine bI_split (fun h_ => hx_ ?_) (fun h_ => hy_ ?_) | refine bI_split (fun h_ => hy_ ?_) (fun h_ => hx_ ?_)) <;> try rw [h_]) <;> clear hx_ hy_ x_ y_)) | ((with_reducible first | refine hK_ _ _ ?_ | refine hK_ _ _ _ _ (Weak.refl _ _) ?_); clear hK_ K_) | clear hK_ K_)
        exact ⟨rfl, hxt⟩
      · repeat' (first | refine st ?_ | refine pblock_en rfl ?_ | (refine ss ?_; intro K_ hK_) | refine vops_gf rfl ?_ | refine vops_gt rfl ?_ | (refine sk ?_; intro k_ hk_; simp only [go_sem, simprocAttr, f1, f2, beq_f hb, hm', eq_false h3, eq_true h4]; (with_reducible first | refine hk_ _ _ ?_ | refine hk_ _ ?_); clear hk_ k_) | ((first | refine sg ?_ | refine sc ?_); intro x_ y_ hx_ hy_; simp only [go_sem, simprocAttr, f1, f2, beq_f hb, hm', eq_false h3, eq_true h4]; ((first | (with_reducible first | refine hx_ ?_ | refine hy_ ?_) | (with_reducible first | refine bI_split (fun h_ => hx_ ?_) (fun h_ => hy_ ?_) | refine bI_split (fun h_ => hy_ ?_) (fun h_ => hx_ ?_)) <;> try rw [h_]) <;> clear hx_ hy_ x_ y_)) | ((with_reducible first | refine hK_ _ _ ?_ | refine hK_ _ _ _ _ (Weak.refl _ _) ?_); clear hK_ K_) | clear hK_ K_)
        exact ⟨rfl, hxt⟩
    have w : IntKind.i64.wrap (o + size) = o + size := wrap_id (by omega) (by omega)
    have h5 : (o + size > 1099511627776) = True := eq_true (by omega)
    by_cases hb : b = 0
    · repeat' (first | refine st ?_ | refine pblock_en rfl ?_ | (refine ss ?_; intro K_ hK_) | refine vops_gf rfl ?_ | refine vops_gt rfl ?_ | (refine sk ?_; intro k_ hk_; simp only [go_sem, simprocAttr, f1, f2, beq_t hb, f3 hb, hm', eq_false h3, eq_false h4, w, h5]; (with_reducible first | refine hk_ _ _ ?_ | refine hk_ _ ?_); clear hk_ k_) | ((first | refine sg ?_ | refine sc ?_); intro x_ y_ hx_ hy_; simp only [go_sem, simprocAttr, f1, f2, beq_t hb, f3 hb, hm', eq_false h3, eq_false h4, w, h5]; ((first | (with_reducible first | refine hx_ ?_ | refine hy_ ?_) | (with_reducible first | refine bI_split (fun h_ => hx_ ?_) (fun h_ => hy_ ?_) | refine bI_split (fun h_ => hy_ ?_) (fun h_ => hx_ ?_)) <;> try rw [h_]) <;> clear hx_ hy_ x_ y_)) | ((with_reducible first | refine hK_ _ _ ?_ | refine hK_ _ _ _ _ (Weak.refl _ _) ?_); clear hK_ K_) | clear hK_ K_)
      exact ⟨rfl, hxt⟩
    · repeat' (first | refine st ?_ | refine pblock_en rfl ?_ | (refine ss ?_; intro K_ hK_) | refine vops_gf rfl ?_ | refine vops_gt rfl ?_ | (refine sk ?_; intro k_ hk_; simp only [go_sem, simprocAttr, f1, f2, beq_f hb, hm', eq_false h3, eq_false h4, w, h5]; (with_reducible first | refine hk_ _ _ ?_ | refine hk_ _ ?_); clear hk_ k_) | ((first | refine sg ?_ | refine sc ?_); intro x_ y_ hx_ hy_; simp only [go_sem, simprocAttr, f1, f2, beq_f hb, hm', eq_false h3, eq_false h4, w, h5]; ((first | (with_reducible first | refine hx_ ?_ | refine hy_ ?_) | (with_reducible first | refine bI_split (fun h_ => hx_ ?_) (fun h_ => hy_ ?_) | refine bI_split (fun h_ => hy_ ?_) (fun h_ => hx_ ?_)) <;> try rw [h_]) <;> clear hx_ hy_ x_ y_)) | ((with_reducible first | refine hK_ _ _ ?_ | refine hK_ _ _ _ _ (Weak.refl _ _) ?_); clear hK_ K_) | clear hK_ K_)
      exact ⟨rfl, hxt⟩
  · have e : backS b o size = 0 := by simp [backS, ha, hm, wr, w0, hr]
    have h3 : (o < 0) = False := eq_false (by omega)
    have h4 : (o > 1099511627776) = False := eq_false (by omega)
    have w : IntKind.i64.wrap (o + size) = o + size := wrap_id (by omega) (by omega)
    have h5 : (o + size > 1099511627776) = False := eq_false (by omega)
    rw [e]
    by_cases hb : b = 0
    · repeat' (first | refine st ?_ | refine pblock_en rfl ?_ | (refine ss ?_; intro K_ hK_) | refine vops_gf rfl ?_ | refine vops_gt rfl ?_ | (refine sk ?_; intro k_ hk_; simp only [go_sem, simprocAttr, f1, f2, beq_t hb, f3 hb, hm', h3, h4, w, h5]; (with_reducible first | refine hk_ _ _ ?_ | refine hk_ _ ?_); clear hk_ k_) | ((first | refine sg ?_ | refine sc ?_); intro x_ y_ hx_ hy_; simp only [go_sem, simprocAttr, f1, f2, beq_t hb, f3 hb, hm', h3, h4, w, h5]; ((first | (with_reducible first | refine hx_ ?_ | refine hy_ ?_) | (with_reducible first | refine bI_split (fun h_ => hx_ ?_) (fun h_ => hy_ ?_) | refine bI_split (fun h_ => hy_ ?_) (fun h_ => hx_ ?_)) <;> try rw [h_]) <;> clear hx_ hy_ x_ y_)) | ((with_reducible first | refine hK_ _ _ ?_ | refine hK_ _ _ _ _ (Weak.refl _ _) ?_); clear hK_ K_) | clear hK_ K_)
      exact ⟨rfl, hxt⟩
    · repeat' (first | refine st ?_ | refine pblock_en rfl ?_ | (refine ss ?_; intro K_ hK_) | refine vops_gf rfl ?_ | refine vops_gt rfl ?_ | (refine sk ?_; intro k_ hk_; simp only [go_sem, simprocAttr, f1, f2, beq_f hb, hm', h3, h4, w, h5]; (with_reducible first | refine hk_ _ _ ?_ | refine hk_ _ ?_); clear hk_ k_) | ((first | refine sg ?_ | refine sc ?_); intro x_ y_ hx_ hy_; simp only [go_sem, simprocAttr, f1, f2, beq_f hb, hm', h3, h4, w, h5]; ((first | (with_reducible first | refine hx_ ?_ | refine hy_ ?_) | (with_reducible first | refine bI_split (fun h_ => hx_ ?_) (fun h_ => hy_ ?_) | refine bI_split (fun h_ => hy_ ?_) (fun h_ => hx_ ?_)) <;> try rw [h_]) <;> clear hx_ hy_ x_ y_)) | ((with_reducible first | refine hK_ _ _ ?_ | refine hK_ _ _ _ _ (Weak.refl _ _) ?_); clear hK_ K_) | clear hK_ K_)
      exact ⟨rfl, hxt⟩
theorem touched_c (p lo hi : Int) (h0 : 0 ≤ p) (h1 : p ≤ 1000) (H : Heap) : ACalls Try.prog 56 [.s (I p), .s (I lo), .s (I hi)] H (.s (Bo (touchedS p lo hi))) H := by
  have w1 : IntKind.i64.wrap (4096 * p) = 4096 * p := wrap_id (by omega) (by omega)
  have w2 : IntKind.i64.wrap (4096 * p + 4096) = 4096 * p + 4096 := wrap_id (by omega) (by omega)
  refine acalls_pure te_ok mix Try.func56 rfl Try.call56 (by kernel_rfl) (by kernel_rfl) rfl rfl ?_; simp only [Try.results56]
  repeat' (first | refine st ?_ | refine pblock_en rfl ?_ | (refine ss ?_; intro K_ hK_) | refine vops_gf rfl ?_ | refine vops_gt rfl ?_ | (refine sk ?_; intro k_ hk_; simp only [go_sem, simprocAttr, w1, w2]; (with_reducible first | refine hk_ _ _ ?_ | refine hk_ _ ?_); clear hk_ k_) | ((first | refine sg ?_ | refine sc ?_); intro x_ y_ hx_ hy_; simp only [go_sem, simprocAttr, w1, w2]; ((first | (with_reducible first | refine hx_ ?_ | refine hy_ ?_) | (with_reducible first | refine bI_split (fun h_ => hx_ ?_) (fun h_ => hy_ ?_) | refine bI_split (fun h_ => hy_ ?_) (fun h_ => hx_ ?_)) <;> try rw [h_]) <;> clear hx_ hy_ x_ y_)) | ((with_reducible first | refine hK_ _ _ ?_ | refine hK_ _ _ _ _ (Weak.refl _ _) ?_); clear hK_ K_) | clear hK_ K_)
  all_goals refine ⟨?_, hxt⟩
  all_goals (unfold touchedS; simp only [*]; try rfl)
  all_goals simp_all

/-- what a formed area has at its ends -/
theorem goes_after {p a : Ar} (hp : formed p = true) (ha : formed a = true) : goes p a = (p.e == a.s && afterS (pattr p (phi p - 1)) (pattr a (plo a))) := by
  obtain ⟨p1, p2, p3, p4, p5⟩ := formed_pages hp
  obtain ⟨a1, a2, a3, a4, a5⟩ := formed_pages ha
  have g1 := gat_pattr hp (p := phi p - 1) (by omega) (by omega)
  rw [Bool.eq_iff_iff, goes_iff hp ha, Bool.and_eq_true, after_iff g1, beq_iff_eq]
  obtain ⟨fa1, fa2, fa3, fa4, fa5, fa6, fa7, fa8, fa9, fa10, _⟩ := (formed_iff a).1 ha
  obtain ⟨fp1, fp2, fp3, fp4, fp5, fp6, fp7, fp8, fp9, fp10, _⟩ := (formed_iff p).1 hp
  simp only [pattr]
  constructor
  · rintro ⟨h1, h2, h3, h4, h5⟩
    refine ⟨by omega, h2, h3, h4, ?_⟩
    by_cases hb : p.b = 0
    · split <;> split <;> (try split) <;> omega
    · have := h5 hb
      split <;> split <;> (try split) <;> omega
  · rintro ⟨h1, h2, h3, h4, h5⟩
    refine ⟨by omega, h2, h3, h4, fun hb => ?_⟩
    split at h5 <;> split at h5 <;> omega
theorem rright_c (l : List Ar) (hl : l.length < 1000000) (H : Heap) : ACalls Try.prog 52 [.s (LV Ar.c l)] H (.s (Bo (right l))) H := by
  refine acalls_pure te_ok mix Try.func52 rfl Try.call52 (by kernel_rfl) (by kernel_rfl) rfl rfl ?_; simp only [Try.results52]
  repeat' (first | refine st ?_ | refine pblock_en rfl ?_ | (refine ss ?_; intro K_ hK_) | refine vc_draw' (by kernel_rfl) fun K_ hK_ => ?_ | refine vops_gf rfl ?_ | refine vops_gt rfl ?_ | refine vd_gf rfl ?_ | refine vd_gt rfl ?_ | (refine sk ?_; intro k_ hk_; simp only [go_sem, simprocAttr]; (with_reducible first | refine hk_ _ _ ?_ | refine hk_ _ ?_ | refine hk_ _ _ (by (first | exact HExtR.refl _ | (refine HExtR.push ?_; first | rfl | simp only [go_sem]))) ?_); clear hk_ k_) | ((first | refine sg ?_ | refine sc ?_); intro x_ y_ hx_ hy_; simp only [go_sem, simprocAttr]; ((first | (with_reducible first | refine hx_ ?_ | refine hy_ ?_) | (with_reducible first | refine bI_split (fun h_ => hx_ ?_) (fun h_ => hy_ ?_) | refine bI_split (fun h_ => hy_ ?_) (fun h_ => hx_ ?_)) <;> try rw [h_]) <;> clear hx_ hy_ x_ y_)) | ((with_reducible first | refine hK_ _ _ ?_ | refine hK_ _ _ _ _ (Weak.refl _ _) ?_); clear hK_ K_) | clear hK_ K_)
  refine vc_range l.length (fun i σ' H' => σ' 0 = .s (LV Ar.c l) ∧ σ' 3 = .s (I i) ∧ HExt H H' ∧ right l = rightFrom (prevAt l i) (l.drop i) ∧ (∀ p, prevAt l i = some p → formed p = true)) ⟨rfl, rfl, HExt.refl _, rfl, fun p h => by cases h⟩ ?_
  rintro i σ' H' hi ⟨h0, h3, hx', hr, hpf⟩
  have hn' := hx'.1
  by_cases hil : i < l.length
  · have ha : l[i]? = some l[i] := List.getElem?_eq_getElem hil
    generalize l[i] = a at ha
    have g1 := FL_at ar_len ha
    rw [drop_at ha] at hr
    cases hfa : formed a
    case false =>
      repeat' (first | refine st ?_ | refine pblock_en rfl ?_ | (refine ss ?_; intro K_ hK_) | refine vc_draw' (by kernel_rfl) fun K_ hK_ => ?_ | refine vops_gf rfl ?_ | refine vops_gt rfl ?_ | refine vd_gf rfl ?_ | refine vd_gt rfl ?_ | (refine sk ?_; intro k_ hk_; simp only [go_sem, simprocAttr, h0, h3, ilt hil, g1, hfa]; (with_reducible first | refine hk_ _ _ ?_ | refine hk_ _ ?_ | refine hk_ _ _ (by (first | exact HExtR.refl _ | (refine HExtR.push ?_; first | rfl | simp only [go_sem, h0, h3, ilt hil, g1, hfa]))) ?_); clear hk_ k_) | ((first | refine sg ?_ | refine sc ?_); intro x_ y_ hx_ hy_; simp only [go_sem, simprocAttr, h0, h3, ilt hil, g1, hfa]; ((first | (with_reducible first | refine hx_ ?_ | refine hy_ ?_) | (with_reducible first | refine bI_split (fun h_ => hx_ ?_) (fun h_ => hy_ ?_) | refine bI_split (fun h_ => hy_ ?_) (fun h_ => hx_ ?_)) <;> try rw [h_]) <;> clear hx_ hy_ x_ y_)) | (with_reducible first | refine callv_pure (rformed_c _ _) ?_ | refine vcalld_pure (rformed_c _ _) ?_) | ((with_reducible first | refine hK_ _ _ ?_ | refine hK_ _ _ _ _ (Weak.refl _ _) ?_); clear hK_ K_) | clear hK_ K_)
      refine ⟨?_, hxt⟩
      rw [hr]
      cases prevAt l i <;> simp [rightFrom, hfa]
    obtain ⟨a1, a2, a3, a4, a5⟩ := formed_pages hfa
    by_cases hi0 : i = 0
    · have q0 : ((i : Int) == 0) = true := beq_t (by omega)
      have hpr : prevAt l i = none := by subst hi0; rfl
      repeat' (first | refine st ?_ | refine pblock_en rfl ?_ | (refine ss ?_; intro K_ hK_) | refine vc_draw' (by kernel_rfl) fun K_ hK_ => ?_ | refine vops_gf rfl ?_ | refine vops_gt rfl ?_ | refine vd_gf rfl ?_ | refine vd_gt rfl ?_ | (refine sk ?_; intro k_ hk_; simp only [go_sem, simprocAttr, h0, h3, ilt hil, g1, hfa, q0, wrap_succ (n := i) (by omega)]; (with_reducible first | refine hk_ _ _ ?_ | refine hk_ _ ?_ | refine hk_ _ _ (by (first | exact HExtR.refl _ | (refine HExtR.push ?_; first | rfl | simp only [go_sem, h0, h3, ilt hil, g1, hfa, q0, wrap_succ (n := i) (by omega)]))) ?_); clear hk_ k_) | ((first | refine sg ?_ | refine sc ?_); intro x_ y_ hx_ hy_; simp only [go_sem, simprocAttr, h0, h3, ilt hil, g1, hfa, q0, wrap_succ (n := i) (by omega)]; ((first | (with_reducible first | refine hx_ ?_ | refine hy_ ?_) | (with_reducible first | refine bI_split (fun h_ => hx_ ?_) (fun h_ => hy_ ?_) | refine bI_split (fun h_ => hy_ ?_) (fun h_ => hx_ ?_)) <;> try rw [h_]) <;> clear hx_ hy_ x_ y_)) | (with_reducible first | refine callv_pure (rformed_c _ _) ?_ | refine vcalld_pure (rformed_c _ _) ?_) | ((with_reducible first | refine hK_ _ _ ?_ | refine hK_ _ _ _ _ (Weak.refl _ _) ?_); clear hK_ K_) | clear hK_ K_)
      refine ⟨hil, (by simp only [go_sem, simprocAttr, h0]), (by simp only [go_sem, simprocAttr, ]), hxt, ?_, ?_⟩
      · rw [hr, hpr]; simp [rightFrom, prevAt, hfa, ha]
      · intro p hp; simp [prevAt, ha] at hp; subst hp; exact hfa
    · have q0 : ((i : Int) == 0) = false := beq_f (by omega)
      have hp : l[i - 1]? = some l[i - 1] := List.getElem?_eq_getElem (by omega)
      generalize l[i - 1] = p at hp
      have e1 := FL_at ar_len hp
      have hpr : prevAt l i = some p := by cases i with
        | zero => omega
        | succ i => exact hp
      have hfp := hpf p hpr
      obtain ⟨p1, p2, p3, p4, p5⟩ := formed_pages hfp
      rw [hpr] at hr
      have hga := goes_after hfp hfa
      have w1 : IntKind.i64.wrap (IntKind.i64.wrap (p.e.tdiv 4096) - 1) = ((phi p - 1 : Nat) : Int) := by
        rw [Int.tdiv_eq_ediv_of_nonneg (by omega), wrap_id (n := p.e / 4096) (by omega) (by omega), wrap_id (by omega) (by omega)]; omega
      have w2 : IntKind.i64.wrap (a.s.tdiv 4096) = ((plo a : Nat) : Int) := by
        rw [Int.tdiv_eq_ediv_of_nonneg (by omega), wrap_id (by omega) (by omega)]; omega
      by_cases hgt : p.e > a.s
      · repeat' (first | refine st ?_ | refine pblock_en rfl ?_ | (refine ss ?_; intro K_ hK_) | refine vc_draw' (by kernel_rfl) fun K_ hK_ => ?_ | refine vops_gf rfl ?_ | refine vops_gt rfl ?_ | refine vd_gf rfl ?_ | refine vd_gt rfl ?_ | (refine sk ?_; intro k_ hk_; simp only [go_sem, simprocAttr, h0, h3, ilt hil, g1, hfa, q0, e1, w1, w2, eq_true hgt, wrap_pred (n := i) (by omega) (by omega), ilt (i := i - 1) (n := l.length) (by omega), wrap_succ (n := i) (by omega)]; (with_reducible first | refine hk_ _ _ ?_ | refine hk_ _ ?_ | refine hk_ _ _ (by (first | exact HExtR.refl _ | (refine HExtR.push ?_; first | rfl | simp only [go_sem, h0, h3, ilt hil, g1, hfa, q0, e1, w1, w2, eq_true hgt, wrap_pred (n := i) (by omega) (by omega), ilt (i := i - 1) (n := l.length) (by omega), wrap_succ (n := i) (by omega)]))) ?_); clear hk_ k_) | ((first | refine sg ?_ | refine sc ?_); intro x_ y_ hx_ hy_; simp only [go_sem, simprocAttr, h0, h3, ilt hil, g1, hfa, q0, e1, w1, w2, eq_true hgt, wrap_pred (n := i) (by omega) (by omega), ilt (i := i - 1) (n := l.length) (by omega), wrap_succ (n := i) (by omega)]; ((first | (with_reducible first | refine hx_ ?_ | refine hy_ ?_) | (with_reducible first | refine bI_split (fun h_ => hx_ ?_) (fun h_ => hy_ ?_) | refine bI_split (fun h_ => hy_ ?_) (fun h_ => hx_ ?_)) <;> try rw [h_]) <;> clear hx_ hy_ x_ y_)) | (with_reducible first | refine callv_pure (rformed_c _ _) ?_ | refine callv_pure (rattr_c p _ hfp (by omega) (by omega) _) ?_ | refine callv_pure (rattr_c a _ hfa (by omega) (by omega) _) ?_ | refine vcalld_pure (rformed_c _ _) ?_ | refine vcalld_pure (rattr_c p _ hfp (by omega) (by omega) _) ?_ | refine vcalld_pure (rattr_c a _ hfa (by omega) (by omega) _) ?_) | ((with_reducible first | refine hK_ _ _ ?_ | refine hK_ _ _ _ _ (Weak.refl _ _) ?_); clear hK_ K_) | clear hK_ K_)
        refine ⟨?_, hxt⟩
        rw [hr]; simp [rightFrom, hgt]
      · cases hge : (p.e == a.s && afterS (pattr p (phi p - 1)) (pattr a (plo a)))
        · cases hge1 : p.e == a.s
          · repeat' (first | refine st ?_ | refine pblock_en rfl ?_ | (refine ss ?_; intro K_ hK_) | refine vc_draw' (by kernel_rfl) fun K_ hK_ => ?_ | refine vops_gf rfl ?_ | refine vops_gt rfl ?_ | refine vd_gf rfl ?_ | refine vd_gt rfl ?_ | (refine sk ?_; intro k_ hk_; simp only [go_sem, simprocAttr, h0, h3, ilt hil, g1, hfa, q0, e1, w1, w2, eq_false hgt, hge1, wrap_pred (n := i) (by omega) (by omega), ilt (i := i - 1) (n := l.length) (by omega), wrap_succ (n := i) (by omega)]; (with_reducible first | refine hk_ _ _ ?_ | refine hk_ _ ?_ | refine hk_ _ _ (by (first | exact HExtR.refl _ | (refine HExtR.push ?_; first | rfl | simp only [go_sem, h0, h3, ilt hil, g1, hfa, q0, e1, w1, w2, eq_false hgt, hge1, wrap_pred (n := i) (by omega) (by omega), ilt (i := i - 1) (n := l.length) (by omega), wrap_succ (n := i) (by omega)]))) ?_); clear hk_ k_) | ((first | refine sg ?_ | refine sc ?_); intro x_ y_ hx_ hy_; simp only [go_sem, simprocAttr, h0, h3, ilt hil, g1, hfa, q0, e1, w1, w2, eq_false hgt, hge1, wrap_pred (n := i) (by omega) (by omega), ilt (i := i - 1) (n := l.length) (by omega), wrap_succ (n := i) (by omega)]; ((first | (with_reducible first | refine hx_ ?_ | refine hy_ ?_) | (with_reducible first | refine bI_split (fun h_ => hx_ ?_) (fun h_ => hy_ ?_) | refine bI_split (fun h_ => hy_ ?_) (fun h_ => hx_ ?_)) <;> try rw [h_]) <;> clear hx_ hy_ x_ y_)) | (with_reducible first | refine callv_pure (rformed_c _ _) ?_ | refine callv_pure (rattr_c p _ hfp (by omega) (by omega) _) ?_ | refine callv_pure (rattr_c a _ hfa (by omega) (by omega) _) ?_ | refine callv_pure (after_c _ _ _) ?_ | refine vcalld_pure (rformed_c _ _) ?_ | refine vcalld_pure (rattr_c p _ hfp (by omega) (by omega) _) ?_ | refine vcalld_pure (rattr_c a _ hfa (by omega) (by omega) _) ?_ | refine vcalld_pure (after_c _ _ _) ?_) | ((with_reducible first | refine hK_ _ _ ?_ | refine hK_ _ _ _ _ (Weak.refl _ _) ?_); clear hK_ K_) | clear hK_ K_)
            refine ⟨hil, (by simp only [go_sem, simprocAttr, h0]), (by simp only [go_sem, simprocAttr, ]), hxt, ?_, ?_⟩
            · rw [hr]; simp [rightFrom, prevAt, hfa, ha, hgt, hga, hge]
            · intro p hp; simp [prevAt, ha] at hp; subst hp; exact hfa
          · rw [hge1, Bool.true_and] at hge
            repeat' (first | refine st ?_ | refine pblock_en rfl ?_ | (refine ss ?_; intro K_ hK_) | refine vc_draw' (by kernel_rfl) fun K_ hK_ => ?_ | refine vops_gf rfl ?_ | refine vops_gt rfl ?_ | refine vd_gf rfl ?_ | refine vd_gt rfl ?_ | (refine sk ?_; intro k_ hk_; simp only [go_sem, simprocAttr, h0, h3, ilt hil, g1, hfa, q0, e1, w1, w2, eq_false hgt, hge1, hge, wrap_pred (n := i) (by omega) (by omega), ilt (i := i - 1) (n := l.length) (by omega), wrap_succ (n := i) (by omega)]; (with_reducible first | refine hk_ _ _ ?_ | refine hk_ _ ?_ | refine hk_ _ _ (by (first | exact HExtR.refl _ | (refine HExtR.push ?_; first | rfl | simp only [go_sem, h0, h3, ilt hil, g1, hfa, q0, e1, w1, w2, eq_false hgt, hge1, hge, wrap_pred (n := i) (by omega) (by omega), ilt (i := i - 1) (n := l.length) (by omega), wrap_succ (n := i) (by omega)]))) ?_); clear hk_ k_) | ((first | refine sg ?_ | refine sc ?_); intro x_ y_ hx_ hy_; simp only [go_sem, simprocAttr, h0, h3, ilt hil, g1, hfa, q0, e1, w1, w2, eq_false hgt, hge1, hge, wrap_pred (n := i) (by omega) (by omega), ilt (i := i - 1) (n := l.length) (by omega), wrap_succ (n := i) (by omega)]; ((first | (with_reducible first | refine hx_ ?_ | refine hy_ ?_) | (with_reducible first | refine bI_split (fun h_ => hx_ ?_) (fun h_ => hy_ ?_) | refine bI_split (fun h_ => hy_ ?_) (fun h_ => hx_ ?_)) <;> try rw [h_]) <;> clear hx_ hy_ x_ y_)) | (with_reducible first | refine callv_pure (rformed_c _ _) ?_ | refine callv_pure (rattr_c p _ hfp (by omega) (by omega) _) ?_ | refine callv_pure (rattr_c a _ hfa (by omega) (by omega) _) ?_ | refine callv_pure (after_c _ _ _) ?_ | refine vcalld_pure (rformed_c _ _) ?_ | refine vcalld_pure (rattr_c p _ hfp (by omega) (by omega) _) ?_ | refine vcalld_pure (rattr_c a _ hfa (by omega) (by omega) _) ?_ | refine vcalld_pure (after_c _ _ _) ?_) | ((with_reducible first | refine hK_ _ _ ?_ | refine hK_ _ _ _ _ (Weak.refl _ _) ?_); clear hK_ K_) | clear hK_ K_)
            refine ⟨hil, (by simp only [go_sem, simprocAttr, h0]), (by simp only [go_sem, simprocAttr, ]), hxt, ?_, ?_⟩
            · rw [hr]; simp [rightFrom, prevAt, hfa, ha, hgt, hga, hge]
            · intro p hp; simp [prevAt, ha] at hp; subst hp; exact hfa
        · obtain ⟨hge1, hge2⟩ := Bool.and_eq_true_iff.1 hge
          repeat' (first | refine st ?_ | refine pblock_en rfl ?_ | (refine ss ?_; intro K_ hK_) | refine vc_draw' (by kernel_rfl) fun K_ hK_ => ?_ | refine vops_gf rfl ?_ | refine vops_gt rfl ?_ | refine vd_gf rfl ?_ | refine vd_gt rfl ?_ | (refine sk ?_; intro k_ hk_; simp only [go_sem, simprocAttr, h0, h3, ilt hil, g1, hfa, q0, e1, w1, w2, eq_false hgt, hge1, hge2, wrap_pred (n := i) (by omega) (by omega), ilt (i := i - 1) (n := l.length) (by omega), wrap_succ (n := i) (by omega)]; (with_reducible first | refine hk_ _ _ ?_ | refine hk_ _ ?_ | refine hk_ _ _ (by (first | exact HExtR.refl _ | (refine HExtR.push ?_; first | rfl | simp only [go_sem, h0, h3, ilt hil, g1, hfa, q0, e1, w1, w2, eq_false hgt, hge1, hge2, wrap_pred (n := i) (by omega) (by omega), ilt (i := i - 1) (n := l.length) (by omega), wrap_succ (n := i) (by omega)]))) ?_); clear hk_ k_) | ((first | refine sg ?_ | refine sc ?_); intro x_ y_ hx_ hy_; simp only [go_sem, simprocAttr, h0, h3, ilt hil, g1, hfa, q0, e1, w1, w2, eq_false hgt, hge1, hge2, wrap_pred (n := i) (by omega) (by omega), ilt (i := i - 1) (n := l.length) (by omega), wrap_succ (n := i) (by omega)]; ((first | (with_reducible first | refine hx_ ?_ | refine hy_ ?_) | (with_reducible first | refine bI_split (fun h_ => hx_ ?_) (fun h_ => hy_ ?_) | refine bI_split (fun h_ => hy_ ?_) (fun h_ => hx_ ?_)) <;> try rw [h_]) <;> clear hx_ hy_ x_ y_)) | (with_reducible first | refine callv_pure (rformed_c _ _) ?_ | refine callv_pure (rattr_c p _ hfp (by omega) (by omega) _) ?_ | refine callv_pure (rattr_c a _ hfa (by omega) (by omega) _) ?_ | refine callv_pure (after_c _ _ _) ?_ | refine vcalld_pure (rformed_c _ _) ?_ | refine vcalld_pure (rattr_c p _ hfp (by omega) (by omega) _) ?_ | refine vcalld_pure (rattr_c a _ hfa (by omega) (by omega) _) ?_ | refine vcalld_pure (after_c _ _ _) ?_) | ((with_reducible first | refine hK_ _ _ ?_ | refine hK_ _ _ _ _ (Weak.refl _ _) ?_); clear hK_ K_) | clear hK_ K_)
          refine ⟨?_, hxt⟩
          rw [hr]; simp [rightFrom, hga, hge]
  · repeat' (first | refine st ?_ | refine pblock_en rfl ?_ | (refine ss ?_; intro K_ hK_) | refine vc_draw' (by kernel_rfl) fun K_ hK_ => ?_ | refine vops_gf rfl ?_ | refine vops_gt rfl ?_ | refine vd_gf rfl ?_ | refine vd_gt rfl ?_ | (refine sk ?_; intro k_ hk_; simp only [go_sem, simprocAttr, h0, h3, ige hil]; (with_reducible first | refine hk_ _ _ ?_ | refine hk_ _ ?_ | refine hk_ _ _ (by (first | exact HExtR.refl _ | (refine HExtR.push ?_; first | rfl | simp only [go_sem, h0, h3, ige hil]))) ?_); clear hk_ k_) | ((first | refine sg ?_ | refine sc ?_); intro x_ y_ hx_ hy_; simp only [go_sem, simprocAttr, h0, h3, ige hil]; ((first | (with_reducible first | refine hx_ ?_ | refine hy_ ?_) | (with_reducible first | refine bI_split (fun h_ => hx_ ?_) (fun h_ => hy_ ?_) | refine bI_split (fun h_ => hy_ ?_) (fun h_ => hx_ ?_)) <;> try rw [h_]) <;> clear hx_ hy_ x_ y_)) | ((with_reducible first | refine hK_ _ _ ?_ | refine hK_ _ _ _ _ (Weak.refl _ _) ?_); clear hK_ K_) | clear hK_ K_)
    have : i = l.length := by omega
    subst this
    refine ⟨?_, hxt⟩
    rw [hr]; simp [rightFrom]
theorem rmay_c (l : List Ar) (hl : l.length < 100000) (H : Heap) : ACalls Try.prog 23 [.s (LV Ar.c l)] H (.s (Bo (mayS l))) H := by
  have e24 : ((l.length : Int) ≤ 24) = (l.length ≤ 24) := by simp; omega
  refine acalls_pure te_ok mix Try.func23 rfl Try.call23 (by kernel_rfl) (by kernel_rfl) rfl rfl ?_; simp only [Try.results23]
  repeat' (first | refine st ?_ | refine pblock_en rfl ?_ | (refine ss ?_; intro K_ hK_) | refine vops_gf rfl ?_ | refine vops_gt rfl ?_ | (refine sk ?_; intro k_ hk_; simp only [go_sem, simprocAttr, e24]; (with_reducible first | refine hk_ _ _ ?_ | refine hk_ _ ?_); clear hk_ k_) | ((first | refine sg ?_ | refine sc ?_); intro x_ y_ hx_ hy_; simp only [go_sem, simprocAttr, e24]; ((first | (with_reducible first | refine hx_ ?_ | refine hy_ ?_) | (with_reducible first | refine bI_split (fun h_ => hx_ ?_) (fun h_ => hy_ ?_) | refine bI_split (fun h_ => hy_ ?_) (fun h_ => hx_ ?_)) <;> try rw [h_]) <;> clear hx_ hy_ x_ y_)) | (with_reducible first | refine callv_pure (rright_c l (by omega) _) ?_) | ((with_reducible first | refine hK_ _ _ ?_ | refine hK_ _ _ _ _ (Weak.refl _ _) ?_); clear hK_ K_) | clear hK_ K_)
  all_goals refine ⟨?_, hxt⟩
  all_goals simp_all [mayS]
end Go.Abs
/-
  samararef08.Free, Choose, Fits; samararef10.Some, With, Without, Kept.
-/
namespace Go.Abs
set_option linter.unusedVariables false
set_option linter.unusedSimpArgs false
open Go.Proofs
set_option maxHeartbeats 4000000

theorem free_c (s : List Pg) (hs : s.length = 512) (a n : Int) (ha : -1000000 ≤ a ∧ a ≤ 1000000) (hn : -1000000 ≤ n ∧ n ≤ 1000000) (H : Heap) : ACalls Try.prog 81 [.agg (FL Pg.c s), .s (I a), .s (I n)] H (.s (Bo (freeP s a n))) H := by
  have w : IntKind.i64.wrap (a + n) = a + n := wrap_id (by omega) (by omega)
  have t2 := sp_len hs
  refine acalls_pure te_ok mix Try.func81 rfl Try.call81 (by kernel_rfl) (by kernel_rfl) rfl rfl ?_; simp only [Try.results81]
  by_cases hok : 16 ≤ a ∧ 1 ≤ n ∧ n ≤ 496 ∧ a + n ≤ 512
  case neg =>
    have e : freeP s a n = false := by
      unfold freeP
      cases h : decide (16 ≤ a) && decide (1 ≤ n) && decide (n ≤ 496) && decide (a + n ≤ 512)
      · rfl
      · simp only [Bool.and_eq_true, decide_eq_true_eq] at h; omega
    rw [e]
    repeat' (first | refine st ?_ | refine pblock_en rfl ?_ | (refine ss ?_; intro K_ hK_) | refine vops_gf rfl ?_ | refine vops_gt rfl ?_ | (refine sk ?_; intro k_ hk_; simp only [go_sem, simprocAttr, w]; (with_reducible first | refine hk_ _ _ ?_ | refine hk_ _ ?_); clear hk_ k_) | ((first | refine sg ?_ | refine sc ?_); intro x_ y_ hx_ hy_; simp only [go_sem, simprocAttr, w]; ((first | (with_reducible first | refine hx_ ?_ | refine hy_ ?_) | (with_reducible first | refine bI_split (fun h_ => hx_ ?_) (fun h_ => hy_ ?_) | refine bI_split (fun h_ => hy_ ?_) (fun h_ => hx_ ?_)) <;> try rw [h_]) <;> clear hx_ hy_ x_ y_)) | ((with_reducible first | refine hK_ _ _ ?_ | refine hK_ _ _ _ _ (Weak.refl _ _) ?_); clear hK_ K_) | clear hK_ K_)
    all_goals first
      | exact ⟨rfl, hxt⟩
      | (exfalso; simp_all; done)
      | (exfalso; simp_all; omega)
  obtain ⟨h1, h2, h3, h4⟩ := hok
  have e : freeP s a n = allFree s a.toNat n.toNat := by simp [freeP, h1, h2, h3, h4]
  rw [e]
  have f1 : (a < 16) = False := eq_false (by omega)
  have f2 : (n < 1) = False := eq_false (by omega)
  have f3 : (n > 496) = False := eq_false (by omega)
  have f4 : (a + n > 512) = False := eq_false (by omega)
  obtain ⟨i, rfl⟩ : ∃ i : Nat, a = i := ⟨a.toNat, by omega⟩
  obtain ⟨m, rfl⟩ : ∃ m : Nat, n = m := ⟨n.toNat, by omega⟩
  simp only [Int.toNat_natCast]
  repeat' (first | refine st ?_ | refine pblock_en rfl ?_ | (refine ss ?_; intro K_ hK_) | refine vops_gf rfl ?_ | refine vops_gt rfl ?_ | (refine sk ?_; intro k_ hk_; simp only [go_sem, simprocAttr, w, f1, f2, f3, f4]; (with_reducible first | refine hk_ _ _ ?_ | refine hk_ _ ?_); clear hk_ k_) | ((first | refine sg ?_ | refine sc ?_); intro x_ y_ hx_ hy_; simp only [go_sem, simprocAttr, w, f1, f2, f3, f4]; ((first | (with_reducible first | refine hx_ ?_ | refine hy_ ?_) | (with_reducible first | refine bI_split (fun h_ => hx_ ?_) (fun h_ => hy_ ?_) | refine bI_split (fun h_ => hy_ ?_) (fun h_ => hx_ ?_)) <;> try rw [h_]) <;> clear hx_ hy_ x_ y_)) | ((with_reducible first | refine hK_ _ _ ?_ | refine hK_ _ _ _ _ (Weak.refl _ _) ?_); clear hK_ K_) | clear hK_ K_)
  refine vc_range m (fun j σ' H' => σ' 1 = .s (I i) ∧ σ' 2 = .s (I m) ∧ σ' 3 = .s (.ptr H.n 0) ∧ σ' 7 = .s (I ((i + j : Nat) : Int)) ∧ HExt H H' ∧ H.n < H'.n ∧ H'.m H.n = some { cells := FL Pg.c s } ∧ ∀ p, i ≤ p → p < i + j → (pgD s p).i = false) ⟨(by simp only [go_sem, simprocAttr, ]), (by simp only [go_sem, simprocAttr, ]), (by simp only [go_sem, simprocAttr, ]), (by simp only [go_sem, simprocAttr, ]), hxt, by simp, by simp [push_m], fun p h1 h2 => by omega⟩ ?_
  rintro j σ' H' hj ⟨s1, s2, s3, s7, hx', hn1, hm, hfr⟩
  have hn' := hx'.1
  by_cases hjl : j < m
  · have hp := pgD_get (s := s) (p := i + j) (by omega)
    have q1 := FL_at pg_len hp
    have c0 : (FL Pg.c s)[(i + j) * 5]? = some (Bo (pgD s (i + j)).i) := cell_at q1 0 (by simp [pg_len])
    have g1 : (((i + j : Nat) : Int) < (i : Int) + (m : Int)) = True := eq_true (by omega)
    have g2 : (0 ≤ ((i + j : Nat) : Int)) = True := eq_true (by omega)
    have g3 : (((i + j : Nat) : Int) < 512) = True := eq_true (by omega)
    have w1 : IntKind.i64.wrap (((i + j : Nat) : Int) + 1) = ((i + (j + 1) : Nat) : Int) := by rw [wrap_id] <;> omega
    cases hb : (pgD s (i + j)).i
    · rw [hb] at c0
      repeat' (first | refine st ?_ | refine pblock_en rfl ?_ | (refine ss ?_; intro K_ hK_) | refine vops_gf rfl ?_ | refine vops_gt rfl ?_ | (refine sk ?_; intro k_ hk_; simp only [go_sem, simprocAttr, s1, s2, s3, s7, hm, nlt hn1, nlt0 hn1, w, g1, g2, g3, c0, w1]; (with_reducible first | refine hk_ _ _ ?_ | refine hk_ _ ?_); clear hk_ k_) | ((first | refine sg ?_ | refine sc ?_); intro x_ y_ hx_ hy_; simp only [go_sem, simprocAttr, s1, s2, s3, s7, hm, nlt hn1, nlt0 hn1, w, g1, g2, g3, c0, w1]; ((first | (with_reducible first | refine hx_ ?_ | refine hy_ ?_) | (with_reducible first | refine bI_split (fun h_ => hx_ ?_) (fun h_ => hy_ ?_) | refine bI_split (fun h_ => hy_ ?_) (fun h_ => hx_ ?_)) <;> try rw [h_]) <;> clear hx_ hy_ x_ y_)) | ((with_reducible first | refine hK_ _ _ ?_ | refine hK_ _ _ _ _ (Weak.refl _ _) ?_); clear hK_ K_) | clear hK_ K_)
      exact ⟨hjl, (by simp only [go_sem, simprocAttr, s1]), (by simp only [go_sem, simprocAttr, s2]), (by simp only [go_sem, simprocAttr, s3]), (by simp only [go_sem, simprocAttr, ]), hx', hn1, hm, fun p h1 h2 => by
        by_cases e : p = i + j
        · subst e; exact hb
        · exact hfr p h1 (by omega)⟩
    · rw [hb] at c0
      repeat' (first | refine st ?_ | refine pblock_en rfl ?_ | (refine ss ?_; intro K_ hK_) | refine vops_gf rfl ?_ | refine vops_gt rfl ?_ | (refine sk ?_; intro k_ hk_; simp only [go_sem, simprocAttr, s1, s2, s3, s7, hm, nlt hn1, nlt0 hn1, w, g1, g2, g3, c0, w1]; (with_reducible first | refine hk_ _ _ ?_ | refine hk_ _ ?_); clear hk_ k_) | ((first | refine sg ?_ | refine sc ?_); intro x_ y_ hx_ hy_; simp only [go_sem, simprocAttr, s1, s2, s3, s7, hm, nlt hn1, nlt0 hn1, w, g1, g2, g3, c0, w1]; ((first | (with_reducible first | refine hx_ ?_ | refine hy_ ?_) | (with_reducible first | refine bI_split (fun h_ => hx_ ?_) (fun h_ => hy_ ?_) | refine bI_split (fun h_ => hy_ ?_) (fun h_ => hx_ ?_)) <;> try rw [h_]) <;> clear hx_ hy_ x_ y_)) | ((with_reducible first | refine hK_ _ _ ?_ | refine hK_ _ _ _ _ (Weak.refl _ _) ?_); clear hK_ K_) | clear hK_ K_)
      refine ⟨?_, hxt⟩
      have : allFree s i m = false := by
        cases h : allFree s i m
        · rfl
        · have := (allFree_iff s i m).1 h (i + j) (by omega) (by omega)
          rw [hb] at this; cases this
      rw [this]
  · have ej : j = m := by omega
    subst ej
    have g1 : (((i + j : Nat) : Int) < (i : Int) + (j : Int)) = False := eq_false (by omega)
    repeat' (first | refine st ?_ | refine pblock_en rfl ?_ | (refine ss ?_; intro K_ hK_) | refine vops_gf rfl ?_ | refine vops_gt rfl ?_ | (refine sk ?_; intro k_ hk_; simp only [go_sem, simprocAttr, s1, s2, s3, s7, w, g1]; (with_reducible first | refine hk_ _ _ ?_ | refine hk_ _ ?_); clear hk_ k_) | ((first | refine sg ?_ | refine sc ?_); intro x_ y_ hx_ hy_; simp only [go_sem, simprocAttr, s1, s2, s3, s7, w, g1]; ((first | (with_reducible first | refine hx_ ?_ | refine hy_ ?_) | (with_reducible first | refine bI_split (fun h_ => hx_ ?_) (fun h_ => hy_ ?_) | refine bI_split (fun h_ => hy_ ?_) (fun h_ => hx_ ?_)) <;> try rw [h_]) <;> clear hx_ hy_ x_ y_)) | ((with_reducible first | refine hK_ _ _ ?_ | refine hK_ _ _ _ _ (Weak.refl _ _) ?_); clear hK_ K_) | clear hK_ K_)
    refine ⟨?_, hxt⟩
    rw [(allFree_iff s i j).2 hfr]

theorem rsome_c (s : List Pg) (hs : s.length = 512) (lo hi : Int) (H : Heap) : ACalls Try.prog 26 [.agg (FL Pg.c s), .s (I lo), .s (I hi)] H (.s (Bo (someP s lo hi))) H := by
  have t2 := sp_len hs
  refine acalls_pure te_ok mix Try.func26 rfl Try.call26 (by kernel_rfl) (by kernel_rfl) rfl rfl ?_; simp only [Try.results26]
  repeat' (first | refine st ?_ | refine pblock_en rfl ?_ | (refine ss ?_; intro K_ hK_) | refine vops_gf rfl ?_ | refine vops_gt rfl ?_ | (refine sk ?_; intro k_ hk_; simp only [go_sem, simprocAttr]; (with_reducible first | refine hk_ _ _ ?_ | refine hk_ _ ?_); clear hk_ k_) | ((first | refine sg ?_ | refine sc ?_); intro x_ y_ hx_ hy_; simp only [go_sem, simprocAttr]; ((first | (with_reducible first | refine hx_ ?_ | refine hy_ ?_) | (with_reducible first | refine bI_split (fun h_ => hx_ ?_) (fun h_ => hy_ ?_) | refine bI_split (fun h_ => hy_ ?_) (fun h_ => hx_ ?_)) <;> try rw [h_]) <;> clear hx_ hy_ x_ y_)) | ((with_reducible first | refine hK_ _ _ ?_ | refine hK_ _ _ _ _ (Weak.refl _ _) ?_); clear hK_ K_) | clear hK_ K_)
  refine vc_range 512 (fun j σ' H' => σ' 1 = .s (I lo) ∧ σ' 2 = .s (I hi) ∧ σ' 3 = .s (.ptr H.n 0) ∧ σ' 7 = .s (I j) ∧ HExt H H' ∧ H.n < H'.n ∧ H'.m H.n = some { cells := FL Pg.c s } ∧ (List.range j).any (fun p => (pgD s p).i && touchedS p lo hi) = false) ⟨(by simp only [go_sem, simprocAttr, ]), (by simp only [go_sem, simprocAttr, ]), (by simp only [go_sem, simprocAttr, ]), (by (try simp only [go_sem, simprocAttr, ]); first | done | exact rfl), hxt, by simp, by simp [push_m], by simp⟩ ?_
  rintro j σ' H' hj ⟨s1, s2, s3, s7, hx', hn1, hm, hfr⟩
  have hn' := hx'.1
  by_cases hjl : j < 512
  · have hp := pgD_get (s := s) (p := j) (by omega)
    have q1 := FL_at pg_len hp
    have c0 : (FL Pg.c s)[j * 5]? = some (Bo (pgD s j).i) := cell_at q1 0 (by simp [pg_len])
    have g1 : ((j : Int) < 512) = True := eq_true (by omega)
    have g2 : (0 ≤ (j : Int)) = True := eq_true (by omega)
    have g3 : ((j : Int) < 512) = True := eq_true (by omega)
    have hsp : ∀ b, ((pgD s j).i && touchedS j lo hi) = b → (List.range (j + 1)).any (fun p => (pgD s p).i && touchedS p lo hi) = b := by
      intro b hb
      rw [List.range_succ, List.any_append, hfr, Bool.false_or]
      simp [hb]
    cases hb : (pgD s j).i
    · rw [hb] at c0 hsp
      repeat' (first | refine st ?_ | refine pblock_en rfl ?_ | (refine ss ?_; intro K_ hK_) | refine vops_gf rfl ?_ | refine vops_gt rfl ?_ | (refine sk ?_; intro k_ hk_; simp only [go_sem, simprocAttr, s1, s2, s3, s7, hm, nlt hn1, nlt0 hn1, g1, g2, g3, c0, wrap_succ (n := j) (by omega)]; (with_reducible first | refine hk_ _ _ ?_ | refine hk_ _ ?_); clear hk_ k_) | ((first | refine sg ?_ | refine sc ?_); intro x_ y_ hx_ hy_; simp only [go_sem, simprocAttr, s1, s2, s3, s7, hm, nlt hn1, nlt0 hn1, g1, g2, g3, c0, wrap_succ (n := j) (by omega)]; ((first | (with_reducible first | refine hx_ ?_ | refine hy_ ?_) | (with_reducible first | refine bI_split (fun h_ => hx_ ?_) (fun h_ => hy_ ?_) | refine bI_split (fun h_ => hy_ ?_) (fun h_ => hx_ ?_)) <;> try rw [h_]) <;> clear hx_ hy_ x_ y_)) | ((with_reducible first | refine hK_ _ _ ?_ | refine hK_ _ _ _ _ (Weak.refl _ _) ?_); clear hK_ K_) | clear hK_ K_)
      exact ⟨hjl, (by simp only [go_sem, simprocAttr, s1]), (by simp only [go_sem, simprocAttr, s2]), (by simp only [go_sem, simprocAttr, s3]), (by simp only [go_sem, simprocAttr, ]), hx', hn1, hm, hsp _ rfl⟩
    · rw [hb] at c0 hsp
      cases ht : touchedS j lo hi
      · repeat' (first | refine st ?_ | refine pblock_en rfl ?_ | (refine ss ?_; intro K_ hK_) | refine vops_gf rfl ?_ | refine vops_gt rfl ?_ | (refine sk ?_; intro k_ hk_; simp only [go_sem, simprocAttr, s1, s2, s3, s7, hm, nlt hn1, nlt0 hn1, g1, g2, g3, c0, ht, wrap_succ (n := j) (by omega)]; (with_reducible first | refine hk_ _ _ ?_ | refine hk_ _ ?_); clear hk_ k_) | ((first | refine sg ?_ | refine sc ?_); intro x_ y_ hx_ hy_; simp only [go_sem, simprocAttr, s1, s2, s3, s7, hm, nlt hn1, nlt0 hn1, g1, g2, g3, c0, ht, wrap_succ (n := j) (by omega)]; ((first | (with_reducible first | refine hx_ ?_ | refine hy_ ?_) | (with_reducible first | refine bI_split (fun h_ => hx_ ?_) (fun h_ => hy_ ?_) | refine bI_split (fun h_ => hy_ ?_) (fun h_ => hx_ ?_)) <;> try rw [h_]) <;> clear hx_ hy_ x_ y_)) | (with_reducible first | refine callv_pure (touched_c _ _ _ (by omega) (by omega) _) ?_) | ((with_reducible first | refine hK_ _ _ ?_ | refine hK_ _ _ _ _ (Weak.refl _ _) ?_); clear hK_ K_) | clear hK_ K_)
        exact ⟨hjl, (by simp only [go_sem, simprocAttr, s1]), (by simp only [go_sem, simprocAttr, s2]), (by simp only [go_sem, simprocAttr, s3]), (by simp only [go_sem, simprocAttr, ]), hx', hn1, hm, hsp _ (by rw [ht]; rfl)⟩
      · repeat' (first | refine st ?_ | refine pblock_en rfl ?_ | (refine ss ?_; intro K_ hK_) | refine vops_gf rfl ?_ | refine vops_gt rfl ?_ | (refine sk ?_; intro k_ hk_; simp only [go_sem, simprocAttr, s1, s2, s3, s7, hm, nlt hn1, nlt0 hn1, g1, g2, g3, c0, ht, wrap_succ (n := j) (by omega)]; (with_reducible first | refine hk_ _ _ ?_ | refine hk_ _ ?_); clear hk_ k_) | ((first | refine sg ?_ | refine sc ?_); intro x_ y_ hx_ hy_; simp only [go_sem, simprocAttr, s1, s2, s3, s7, hm, nlt hn1, nlt0 hn1, g1, g2, g3, c0, ht, wrap_succ (n := j) (by omega)]; ((first | (with_reducible first | refine hx_ ?_ | refine hy_ ?_) | (with_reducible first | refine bI_split (fun h_ => hx_ ?_) (fun h_ => hy_ ?_) | refine bI_split (fun h_ => hy_ ?_) (fun h_ => hx_ ?_)) <;> try rw [h_]) <;> clear hx_ hy_ x_ y_)) | (with_reducible first | refine callv_pure (touched_c _ _ _ (by omega) (by omega) _) ?_) | ((with_reducible first | refine hK_ _ _ ?_ | refine hK_ _ _ _ _ (Weak.refl _ _) ?_); clear hK_ K_) | clear hK_ K_)
        refine ⟨?_, hxt⟩
        have : someP s lo hi = true := by
          unfold someP
          rw [List.any_eq_true]
          exact ⟨j, List.mem_range.2 hjl, by simp [hb, ht]⟩
        rw [this]
  · have ej : j = 512 := by omega
    subst ej
    have g1 : (((512 : Nat) : Int) < 512) = False := eq_false (by omega)
    repeat' (first | refine st ?_ | refine pblock_en rfl ?_ | (refine ss ?_; intro K_ hK_) | refine vops_gf rfl ?_ | refine vops_gt rfl ?_ | (refine sk ?_; intro k_ hk_; simp only [go_sem, simprocAttr, s1, s2, s3, s7, g1]; (with_reducible first | refine hk_ _ _ ?_ | refine hk_ _ ?_); clear hk_ k_) | ((first | refine sg ?_ | refine sc ?_); intro x_ y_ hx_ hy_; simp only [go_sem, simprocAttr, s1, s2, s3, s7, g1]; ((first | (with_reducible first | refine hx_ ?_ | refine hy_ ?_) | (with_reducible first | refine bI_split (fun h_ => hx_ ?_) (fun h_ => hy_ ?_) | refine bI_split (fun h_ => hy_ ?_) (fun h_ => hx_ ?_)) <;> try rw [h_]) <;> clear hx_ hy_ x_ y_)) | ((with_reducible first | refine hK_ _ _ ?_ | refine hK_ _ _ _ _ (Weak.refl _ _) ?_); clear hK_ K_) | clear hK_ K_)
    refine ⟨?_, hxt⟩
    rw [someP, hfr]

theorem choose_c (l : List Ar) (hl : l.length < 100000) (hf : ∀ a ∈ l, formed a = true) (n : Int) (gr : Bool) (H : Heap) : ACalls Try.prog 54 [.s (LV Ar.c l), .s (I 65536), .s (I 2097152), .s (I n), .s (Bo gr)] H (.s (I (chooseP (ofS l) n gr))) H := by
  have hs := ofS_len l
  have t1 := sp_take hs
  have t2 := sp_len hs
  have t3 := sp_len pz_len
  have t4 : setAll (FL Pg.c pz) 0 (FL Pg.c (ofS l)) = FL Pg.c (ofS l) := setAll_full (by rw [t2, t3])
  have hz := bigz_c
  have O1 := fun H => of_c l hl hf H
  generalize ofS l = s at hs t1 t2 t4 O1
  refine acalls_pure te_ok mix Try.func54 rfl Try.call54 (by kernel_rfl) (by kernel_rfl) rfl rfl ?_; simp only [Try.results54]
  by_cases hok : 1 ≤ n ∧ n ≤ 2031616 ∧ n % 4096 = 0
  case neg =>
    have e : chooseP s n gr = -1 := by
      unfold chooseP okSize
      rw [if_neg]
      simp only [Bool.and_eq_true, decide_eq_true_eq]; omega
    rw [e]
    repeat' (first | refine st ?_ | refine pblock_en rfl ?_ | (refine ss ?_; intro K_ hK_) | refine vops_gf rfl ?_ | refine vops_gt rfl ?_ | (refine sk ?_; intro k_ hk_; simp only [go_sem, simprocAttr, hz, t1, t2, t3, t4]; (with_reducible first | refine hk_ _ _ ?_ | refine hk_ _ ?_); clear hk_ k_) | ((first | refine sg ?_ | refine sc ?_); intro x_ y_ hx_ hy_; simp only [go_sem, simprocAttr, hz, t1, t2, t3, t4]; ((first | (with_reducible first | refine hx_ ?_ | refine hy_ ?_) | (with_reducible first | refine bI_split (fun h_ => hx_ ?_) (fun h_ => hy_ ?_) | refine bI_split (fun h_ => hy_ ?_) (fun h_ => hx_ ?_)) <;> try rw [h_]) <;> clear hx_ hy_ x_ y_)) | (with_reducible first | refine callv_pure (O1 _) ?_) | ((with_reducible first | refine hK_ _ _ ?_ | refine hK_ _ _ _ _ (Weak.refl _ _) ?_); clear hK_ K_) | clear hK_ K_)
    all_goals first
      | exact ⟨rfl, hxt⟩
      | (exfalso; simp_all [tmod_zero]; done)
      | (exfalso; simp_all [tmod_zero]; omega)
  obtain ⟨h1, h2, h3⟩ := hok
  have e : chooseP s n gr = (List.range' 16 496).foldl (chStep s n gr) (-1) := by simp [chooseP, okSize, h1, h2, h3]
  rw [e]
  have f1 : (n < 1) = False := eq_false (by omega)
  have f2 : (n > 2031616) = False := eq_false (by omega)
  have f3 : (n.tmod 4096 != 0) = false := by simpa [tmod_zero] using h3
  have wq : IntKind.i64.wrap (n.tdiv 4096) = n / 4096 := by rw [Int.tdiv_eq_ediv_of_nonneg (by omega), wrap_id (by omega) (by omega)]
  repeat' (first | refine st ?_ | refine pblock_en rfl ?_ | (refine ss ?_; intro K_ hK_) | refine vops_gf rfl ?_ | refine vops_gt rfl ?_ | (refine sk ?_; intro k_ hk_; simp only [go_sem, simprocAttr, hz, t1, t2, t3, t4, f1, f2, f3]; (with_reducible first | refine hk_ _ _ ?_ | refine hk_ _ ?_); clear hk_ k_) | ((first | refine sg ?_ | refine sc ?_); intro x_ y_ hx_ hy_; simp only [go_sem, simprocAttr, hz, t1, t2, t3, t4, f1, f2, f3]; ((first | (with_reducible first | refine hx_ ?_ | refine hy_ ?_) | (with_reducible first | refine bI_split (fun h_ => hx_ ?_) (fun h_ => hy_ ?_) | refine bI_split (fun h_ => hy_ ?_) (fun h_ => hx_ ?_)) <;> try rw [h_]) <;> clear hx_ hy_ x_ y_)) | (with_reducible first | refine callv_pure (O1 _) ?_) | ((with_reducible first | refine hK_ _ _ ?_ | refine hK_ _ _ _ _ (Weak.refl _ _) ?_); clear hK_ K_) | clear hK_ K_)
  refine vc_range 496 (fun i σ' H' => ∃ b, σ' 1 = .s (I 65536) ∧ σ' 2 = .s (I 2097152) ∧ σ' 3 = .s (I n) ∧ σ' 4 = .s (Bo gr) ∧ σ' 11 = .s (.ptr H.n 0) ∧ σ' 12 = .s (I b) ∧ σ' 13 = .s (I ((16 + i : Nat) : Int)) ∧ HExt H H' ∧ H.n < H'.n ∧ H'.m H.n = some { cells := FL Pg.c s } ∧ (List.range' 16 i).foldl (chStep s n gr) (-1) = b) ⟨-1, (by simp only [go_sem, simprocAttr, ]), (by simp only [go_sem, simprocAttr, ]), (by simp only [go_sem, simprocAttr, ]), (by simp only [go_sem, simprocAttr, ]), (by simp only [go_sem, simprocAttr, ]), (by simp only [go_sem, simprocAttr, ]), (by (try simp only [go_sem, simprocAttr, ]); first | done | exact rfl), hxt, by simp, by simp [push_m, set_m], rfl⟩ ?_
  rintro i σ' H' hi ⟨b, s1, s2, s3, s4, s11, s12, s13, hx', hn1, hm, hb⟩
  have hn' := hx'.1
  by_cases hil : i < 496
  · have hw : (List.range' 16 (i + 1)).foldl (chStep s n gr) (-1) = chStep s n gr b (16 + i) := by rw [List.range'_1_concat, List.foldl_append, hb]; rfl
    have g1 : (((16 + i : Nat) : Int) < 512) = True := eq_true (by omega)
    have w1 : IntKind.i64.wrap (((16 + i : Nat) : Int) + 1) = ((16 + (i + 1) : Nat) : Int) := by rw [wrap_id] <;> omega
    have w2 : IntKind.i64.wrap (4096 * ((16 + i : Nat) : Int)) = 4096 * ((16 + i : Nat) : Int) := wrap_id (by omega) (by omega)
    have w3 : IntKind.i64.wrap (4096 * ((16 + i : Nat) : Int) + n) = 4096 * ((16 + i : Nat) : Int) + n := wrap_id (by omega) (by omega)
    have g2 : (4096 * ((16 + i : Nat) : Int) ≥ 65536) = True := eq_true (by omega)
    have F1 := fun H => free_c s hs ((16 + i : Nat) : Int) (n / 4096) ⟨by omega, by omega⟩ ⟨by omega, by omega⟩ H
    have go : ∀ (σ2 : Slots) (H2 : Heap) (b2 : Int), chStep s n gr b (16 + i) = b2 → σ2 1 = .s (I 65536) → σ2 2 = .s (I 2097152) → σ2 3 = .s (I n) → σ2 4 = .s (Bo gr) → σ2 11 = .s (.ptr H.n 0) → σ2 12 = .s (I b2) → σ2 13 = .s (I ((16 + (i + 1) : Nat) : Int)) → HExt H H2 → H.n < H2.n → H2.m H.n = some { cells := FL Pg.c s } →
        i < 496 ∧ ∃ b, σ2 1 = .s (I 65536) ∧ σ2 2 = .s (I 2097152) ∧ σ2 3 = .s (I n) ∧ σ2 4 = .s (Bo gr) ∧ σ2 11 = .s (.ptr H.n 0) ∧ σ2 12 = .s (I b) ∧ σ2 13 = .s (I ((16 + (i + 1) : Nat) : Int)) ∧ HExt H H2 ∧ H.n < H2.n ∧ H2.m H.n = some { cells := FL Pg.c s } ∧ (List.range' 16 (i + 1)).foldl (chStep s n gr) (-1) = b :=
      fun σ2 H2 b2 e a1 a2 a3 a4 a5 a6 a7 a8 a9 a10 => ⟨hil, b2, a1, a2, a3, a4, a5, a6, a7, a8, a9, a10, by rw [hw, e]⟩
    by_cases hle : 2097152 ≥ 4096 * ((16 + i : Nat) : Int) + n
    · cases hfr : freeP s ((16 + i : Nat) : Int) (n / 4096)
      · repeat' (first | refine st ?_ | refine pblock_en rfl ?_ | (refine ss ?_; intro K_ hK_) | refine vops_gf rfl ?_ | refine vops_gt rfl ?_ | (refine sk ?_; intro k_ hk_; simp only [go_sem, simprocAttr, s1, s2, s3, s4, s11, s12, s13, hm, nlt hn1, nlt0 hn1, g1, g2, w1, w2, w3, wq, t1, t2, hfr, eq_true hle]; (with_reducible first | refine hk_ _ _ ?_ | refine hk_ _ ?_); clear hk_ k_) | ((first | refine sg ?_ | refine sc ?_); intro x_ y_ hx_ hy_; simp only [go_sem, simprocAttr, s1, s2, s3, s4, s11, s12, s13, hm, nlt hn1, nlt0 hn1, g1, g2, w1, w2, w3, wq, t1, t2, hfr, eq_true hle]; ((first | (with_reducible first | refine hx_ ?_ | refine hy_ ?_) | (with_reducible first | refine bI_split (fun h_ => hx_ ?_) (fun h_ => hy_ ?_) | refine bI_split (fun h_ => hy_ ?_) (fun h_ => hx_ ?_)) <;> try rw [h_]) <;> clear hx_ hy_ x_ y_)) | (with_reducible first | refine callv_pure (F1 _) ?_) | ((with_reducible first | refine hK_ _ _ ?_ | refine hK_ _ _ _ _ (Weak.refl _ _) ?_); clear hK_ K_) | clear hK_ K_)
        refine go _ _ b (by unfold chStep; rw [hfr]; simp) (by simp only [go_sem, simprocAttr, s1]) (by simp only [go_sem, simprocAttr, s2]) (by simp only [go_sem, simprocAttr, s3]) (by simp only [go_sem, simprocAttr, s4]) (by simp only [go_sem, simprocAttr, s11]) (by simp only [go_sem, simprocAttr, s12]) (by simp only [go_sem, simprocAttr, ]) hx' hn1 hm
      · by_cases hb0 : b < 0
        · repeat' (first | refine st ?_ | refine pblock_en rfl ?_ | (refine ss ?_; intro K_ hK_) | refine vops_gf rfl ?_ | refine vops_gt rfl ?_ | (refine sk ?_; intro k_ hk_; simp only [go_sem, simprocAttr, s1, s2, s3, s4, s11, s12, s13, hm, nlt hn1, nlt0 hn1, g1, g2, w1, w2, w3, wq, t1, t2, hfr, eq_true hle, eq_true hb0]; (with_reducible first | refine hk_ _ _ ?_ | refine hk_ _ ?_); clear hk_ k_) | ((first | refine sg ?_ | refine sc ?_); intro x_ y_ hx_ hy_; simp only [go_sem, simprocAttr, s1, s2, s3, s4, s11, s12, s13, hm, nlt hn1, nlt0 hn1, g1, g2, w1, w2, w3, wq, t1, t2, hfr, eq_true hle, eq_true hb0]; ((first | (with_reducible first | refine hx_ ?_ | refine hy_ ?_) | (with_reducible first | refine bI_split (fun h_ => hx_ ?_) (fun h_ => hy_ ?_) | refine bI_split (fun h_ => hy_ ?_) (fun h_ => hx_ ?_)) <;> try rw [h_]) <;> clear hx_ hy_ x_ y_)) | (with_reducible first | refine callv_pure (F1 _) ?_) | ((with_reducible first | refine hK_ _ _ ?_ | refine hK_ _ _ _ _ (Weak.refl _ _) ?_); clear hK_ K_) | clear hK_ K_)
          refine go _ _ (4096 * ((16 + i : Nat) : Int)) (by unfold chStep; rw [if_pos]; simp only [hfr, Bool.and_eq_true, decide_eq_true_eq, Bool.or_eq_true]; exact ⟨⟨hle, trivial⟩, .inl hb0⟩) (by simp only [go_sem, simprocAttr, s1]) (by simp only [go_sem, simprocAttr, s2]) (by simp only [go_sem, simprocAttr, s3]) (by simp only [go_sem, simprocAttr, s4]) (by simp only [go_sem, simprocAttr, s11]) (by simp only [go_sem, simprocAttr, ]) (by simp only [go_sem, simprocAttr, ]) hx' hn1 hm
        · cases gr
          · repeat' (first | refine st ?_ | refine pblock_en rfl ?_ | (refine ss ?_; intro K_ hK_) | refine vops_gf rfl ?_ | refine vops_gt rfl ?_ | (refine sk ?_; intro k_ hk_; simp only [go_sem, simprocAttr, s1, s2, s3, s4, s11, s12, s13, hm, nlt hn1, nlt0 hn1, g1, g2, w1, w2, w3, wq, t1, t2, hfr, eq_true hle, eq_false hb0]; (with_reducible first | refine hk_ _ _ ?_ | refine hk_ _ ?_); clear hk_ k_) | ((first | refine sg ?_ | refine sc ?_); intro x_ y_ hx_ hy_; simp only [go_sem, simprocAttr, s1, s2, s3, s4, s11, s12, s13, hm, nlt hn1, nlt0 hn1, g1, g2, w1, w2, w3, wq, t1, t2, hfr, eq_true hle, eq_false hb0]; ((first | (with_reducible first | refine hx_ ?_ | refine hy_ ?_) | (with_reducible first | refine bI_split (fun h_ => hx_ ?_) (fun h_ => hy_ ?_) | refine bI_split (fun h_ => hy_ ?_) (fun h_ => hx_ ?_)) <;> try rw [h_]) <;> clear hx_ hy_ x_ y_)) | (with_reducible first | refine callv_pure (F1 _) ?_) | ((with_reducible first | refine hK_ _ _ ?_ | refine hK_ _ _ _ _ (Weak.refl _ _) ?_); clear hK_ K_) | clear hK_ K_)
            refine go _ _ b (by unfold chStep; rw [if_neg]; simp [hb0]) (by simp only [go_sem, simprocAttr, s1]) (by simp only [go_sem, simprocAttr, s2]) (by simp only [go_sem, simprocAttr, s3]) (by simp only [go_sem, simprocAttr, s4]) (by simp only [go_sem, simprocAttr, s11]) (by simp only [go_sem, simprocAttr, s12]) (by simp only [go_sem, simprocAttr, ]) hx' hn1 hm
          · repeat' (first | refine st ?_ | refine pblock_en rfl ?_ | (refine ss ?_; intro K_ hK_) | refine vops_gf rfl ?_ | refine vops_gt rfl ?_ | (refine sk ?_; intro k_ hk_; simp only [go_sem, simprocAttr, s1, s2, s3, s4, s11, s12, s13, hm, nlt hn1, nlt0 hn1, g1, g2, w1, w2, w3, wq, t1, t2, hfr, eq_true hle, eq_false hb0]; (with_reducible first | refine hk_ _ _ ?_ | refine hk_ _ ?_); clear hk_ k_) | ((first | refine sg ?_ | refine sc ?_); intro x_ y_ hx_ hy_; simp only [go_sem, simprocAttr, s1, s2, s3, s4, s11, s12, s13, hm, nlt hn1, nlt0 hn1, g1, g2, w1, w2, w3, wq, t1, t2, hfr, eq_true hle, eq_false hb0]; ((first | (with_reducible first | refine hx_ ?_ | refine hy_ ?_) | (with_reducible first | refine bI_split (fun h_ => hx_ ?_) (fun h_ => hy_ ?_) | refine bI_split (fun h_ => hy_ ?_) (fun h_ => hx_ ?_)) <;> try rw [h_]) <;> clear hx_ hy_ x_ y_)) | (with_reducible first | refine callv_pure (F1 _) ?_) | ((with_reducible first | refine hK_ _ _ ?_ | refine hK_ _ _ _ _ (Weak.refl _ _) ?_); clear hK_ K_) | clear hK_ K_)
            refine go _ _ (4096 * ((16 + i : Nat) : Int)) (by unfold chStep; rw [if_pos]; simp only [hfr, Bool.and_eq_true, decide_eq_true_eq, Bool.or_eq_true]; exact ⟨⟨hle, trivial⟩, .inr trivial⟩) (by simp only [go_sem, simprocAttr, s1]) (by simp only [go_sem, simprocAttr, s2]) (by simp only [go_sem, simprocAttr, s3]) (by simp only [go_sem, simprocAttr, s4]) (by simp only [go_sem, simprocAttr, s11]) (by simp only [go_sem, simprocAttr, ]) (by simp only [go_sem, simprocAttr, ]) hx' hn1 hm
    · repeat' (first | refine st ?_ | refine pblock_en rfl ?_ | (refine ss ?_; intro K_ hK_) | refine vops_gf rfl ?_ | refine vops_gt rfl ?_ | (refine sk ?_; intro k_ hk_; simp only [go_sem, simprocAttr, s1, s2, s3, s4, s11, s12, s13, hm, nlt hn1, nlt0 hn1, g1, g2, w1, w2, w3, wq, t1, t2, eq_false hle]; (with_reducible first | refine hk_ _ _ ?_ | refine hk_ _ ?_); clear hk_ k_) | ((first | refine sg ?_ | refine sc ?_); intro x_ y_ hx_ hy_; simp only [go_sem, simprocAttr, s1, s2, s3, s4, s11, s12, s13, hm, nlt hn1, nlt0 hn1, g1, g2, w1, w2, w3, wq, t1, t2, eq_false hle]; ((first | (with_reducible first | refine hx_ ?_ | refine hy_ ?_) | (with_reducible first | refine bI_split (fun h_ => hx_ ?_) (fun h_ => hy_ ?_) | refine bI_split (fun h_ => hy_ ?_) (fun h_ => hx_ ?_)) <;> try rw [h_]) <;> clear hx_ hy_ x_ y_)) | (with_reducible first | refine callv_pure (F1 _) ?_) | ((with_reducible first | refine hK_ _ _ ?_ | refine hK_ _ _ _ _ (Weak.refl _ _) ?_); clear hK_ K_) | clear hK_ K_)
      refine go _ _ b (by unfold chStep; rw [if_neg]; simp only [Bool.and_eq_true, decide_eq_true_eq]; omega) (by simp only [go_sem, simprocAttr, s1]) (by simp only [go_sem, simprocAttr, s2]) (by simp only [go_sem, simprocAttr, s3]) (by simp only [go_sem, simprocAttr, s4]) (by simp only [go_sem, simprocAttr, s11]) (by simp only [go_sem, simprocAttr, s12]) (by simp only [go_sem, simprocAttr, ]) hx' hn1 hm
  · have ei : i = 496 := by omega
    subst ei
    have g1 : (((16 + 496 : Nat) : Int) < 512) = False := eq_false (by omega)
    repeat' (first | refine st ?_ | refine pblock_en rfl ?_ | (refine ss ?_; intro K_ hK_) | refine vops_gf rfl ?_ | refine vops_gt rfl ?_ | (refine sk ?_; intro k_ hk_; simp only [go_sem, simprocAttr, s1, s2, s3, s4, s11, s12, s13, g1]; (with_reducible first | refine hk_ _ _ ?_ | refine hk_ _ ?_); clear hk_ k_) | ((first | refine sg ?_ | refine sc ?_); intro x_ y_ hx_ hy_; simp only [go_sem, simprocAttr, s1, s2, s3, s4, s11, s12, s13, g1]; ((first | (with_reducible first | refine hx_ ?_ | refine hy_ ?_) | (with_reducible first | refine bI_split (fun h_ => hx_ ?_) (fun h_ => hy_ ?_) | refine bI_split (fun h_ => hy_ ?_) (fun h_ => hx_ ?_)) <;> try rw [h_]) <;> clear hx_ hy_ x_ y_)) | ((with_reducible first | refine hK_ _ _ ?_ | refine hK_ _ _ _ _ (Weak.refl _ _) ?_); clear hK_ K_) | clear hK_ K_)
    exact ⟨by rw [hb], hxt⟩
end Go.Abs
