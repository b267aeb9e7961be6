/-
  Joined texts: K11 K12.
-/
import Derived.Test.YtcgogenmikakkaaB9
/-
  samararef08.Fits; samararef10.With, Without, Kept, Place, Map, Unmap.
-/
namespace Go.Abs
set_option linter.unusedVariables false
set_option linter.unusedSimpArgs false
open Go.Proofs
set_option maxHeartbeats 4000000

theorem rfits_c (l : List Ar) (hl : l.length < 100000) (hf : ∀ a ∈ l, formed a = true) (a n : Int) (H : Heap) : ACalls Try.prog 53 [.s (LV Ar.c l), .s (I a), .s (I n)] H (.s (Bo (rfitsS l a n))) H := by
  have hs := ofS_len l
  have O1 := fun H => of_c l hl hf H
  refine acalls_pure te_ok mix Try.func53 rfl Try.call53 (by kernel_rfl) (by kernel_rfl) rfl rfl ?_; simp only [Try.results53]
  by_cases hok : 1 ≤ n ∧ n ≤ 2031616 ∧ n % 4096 = 0 ∧ a % 4096 = 0 ∧ 0 ≤ a ∧ a ≤ 2097152
  case neg =>
    have e : rfitsS l a n = false := by
      unfold rfitsS okSize
      cases h : decide (1 ≤ n) && decide (n ≤ 2031616) && decide (n % 4096 = 0) && decide (a % 4096 = 0) && decide (0 ≤ a) && decide (a ≤ 2097152)
      · rfl
      · simp only [Bool.and_eq_true, decide_eq_true_eq] at h; omega
    rw [e]
    repeat' (first | refine st ?_ | refine pblock_en rfl ?_ | (refine ss ?_; intro K_ hK_) | refine vops_gf rfl ?_ | refine vops_gt rfl ?_ | (refine sk ?_; intro k_ hk_; simp only [go_sem, simprocAttr]; (with_reducible first | refine hk_ _ _ ?_ | refine hk_ _ ?_); clear hk_ k_) | ((first | refine sg ?_ | refine sc ?_); intro x_ y_ hx_ hy_; simp only [go_sem, simprocAttr]; ((first | (with_reducible first | refine hx_ ?_ | refine hy_ ?_) | (with_reducible first | refine bI_split (fun h_ => hx_ ?_) (fun h_ => hy_ ?_) | refine bI_split (fun h_ => hy_ ?_) (fun h_ => hx_ ?_)) <;> try rw [h_]) <;> clear hx_ hy_ x_ y_)) | ((with_reducible first | refine hK_ _ _ ?_ | refine hK_ _ _ _ _ (Weak.refl _ _) ?_); clear hK_ K_) | clear hK_ K_)
    all_goals first
      | exact ⟨rfl, hxt⟩
      | (exfalso; simp_all [tmod_zero]; done)
      | (exfalso; simp_all [tmod_zero]; omega)
  obtain ⟨h1, h2, h3, h4, h5, h6⟩ := hok
  have e : rfitsS l a n = freeP (ofS l) (a / 4096) (n / 4096) := by simp [rfitsS, okSize, h1, h2, h3, h4, h5, h6]
  rw [e]
  generalize ofS l = s at hs O1
  have f1 : (n < 1) = False := eq_false (by omega)
  have f2 : (n > 2031616) = False := eq_false (by omega)
  have f3 : (n.tmod 4096 != 0) = false := by simpa [tmod_zero] using h3
  have f4 : (a.tmod 4096 != 0) = false := by simpa [tmod_zero] using h4
  have f5 : (a < 0) = False := eq_false (by omega)
  have f6 : (a > 2097152) = False := eq_false (by omega)
  have w1 : IntKind.i64.wrap (n.tdiv 4096) = n / 4096 := by rw [Int.tdiv_eq_ediv_of_nonneg (by omega), wrap_id (by omega) (by omega)]
  have w2 : IntKind.i64.wrap (a.tdiv 4096) = a / 4096 := by rw [Int.tdiv_eq_ediv_of_nonneg (by omega), wrap_id (by omega) (by omega)]
  repeat' (first | refine st ?_ | refine pblock_en rfl ?_ | (refine ss ?_; intro K_ hK_) | refine vops_gf rfl ?_ | refine vops_gt rfl ?_ | (refine sk ?_; intro k_ hk_; simp only [go_sem, simprocAttr, f1, f2, f3, f4, f5, f6, w1, w2]; (with_reducible first | refine hk_ _ _ ?_ | refine hk_ _ ?_); clear hk_ k_) | ((first | refine sg ?_ | refine sc ?_); intro x_ y_ hx_ hy_; simp only [go_sem, simprocAttr, f1, f2, f3, f4, f5, f6, w1, w2]; ((first | (with_reducible first | refine hx_ ?_ | refine hy_ ?_) | (with_reducible first | refine bI_split (fun h_ => hx_ ?_) (fun h_ => hy_ ?_) | refine bI_split (fun h_ => hy_ ?_) (fun h_ => hx_ ?_)) <;> try rw [h_]) <;> clear hx_ hy_ x_ y_)) | (with_reducible first | refine callv_pure (O1 _) ?_ | refine callv_pure (free_c s hs _ _ ⟨by omega, by omega⟩ ⟨by omega, by omega⟩ _) ?_) | ((with_reducible first | refine hK_ _ _ ?_ | refine hK_ _ _ _ _ (Weak.refl _ _) ?_); clear hK_ K_) | clear hK_ K_)
  exact ⟨rfl, hxt⟩

theorem wAt_succ (a : At) (k : Nat) : (if a.b > 0 then { (wAt a k) with o := (wAt a k).o + 4096 } else wAt a k) = wAt a ((k + 1 : Nat) : Int) := by
  unfold wAt
  by_cases h : a.b > 0
  · simp only [h, if_true, At.mk.injEq]; simp; omega
  · simp only [h, if_false]

theorem with_c (s : List Pg) (hs : s.length = 512) (lo hi : Int) (h0 : 0 ≤ lo) (hlo : lo ≤ 2097152) (h1 : 0 ≤ hi) (h2 : hi ≤ 2097152) (a : At) (ho : 0 ≤ a.o ∧ a.o ≤ 2000000000000) (H : Heap) :
    ACalls Try.prog 43 [.agg (FL Pg.c s), .s (I lo), .s (I hi), .agg a.c] H (.agg (FL Pg.c (withP s (lo / 4096).toNat (hi / 4096).toNat a))) H := by
  have t1 := sp_take hs
  have t2 := sp_len hs
  have t3 := sp_len pz_len
  have hz := bigz_c
  obtain ⟨i, hi0⟩ : ∃ i : Nat, (i : Int) = lo / 4096 := ⟨(lo / 4096).toNat, by omega⟩
  obtain ⟨j, hj0⟩ : ∃ j : Nat, (j : Int) = hi / 4096 := ⟨(hi / 4096).toNat, by omega⟩
  have w1 : IntKind.i64.wrap (lo.tdiv 4096) = (i : Int) := by rw [Int.tdiv_eq_ediv_of_nonneg (by omega), wrap_id (by omega) (by omega), hi0]
  have w2 : IntKind.i64.wrap (hi.tdiv 4096) = (j : Int) := by rw [Int.tdiv_eq_ediv_of_nonneg (by omega), wrap_id (by omega) (by omega), hj0]
  rw [← hi0, ← hj0, Int.toNat_natCast, Int.toNat_natCast]
  refine acalls_pure te_ok mix Try.func43 rfl Try.call43 (by kernel_rfl) (by kernel_rfl) rfl (FL_all pg_pers _) ?_
  simp only [Try.results43]
  repeat' (first | refine st ?_ | refine pblock_en rfl ?_ | (refine ss ?_; intro K_ hK_) | refine vops_gf rfl ?_ | refine vops_gt rfl ?_ | (refine sk ?_; intro k_ hk_; simp only [go_sem, simprocAttr, hz, w1, w2]; (with_reducible first | refine hk_ _ _ ?_ | refine hk_ _ ?_); clear hk_ k_) | ((first | refine sg ?_ | refine sc ?_); intro x_ y_ hx_ hy_; simp only [go_sem, simprocAttr, hz, w1, w2]; ((first | (with_reducible first | refine hx_ ?_ | refine hy_ ?_) | (with_reducible first | refine bI_split (fun h_ => hx_ ?_) (fun h_ => hy_ ?_) | refine bI_split (fun h_ => hy_ ?_) (fun h_ => hx_ ?_)) <;> try rw [h_]) <;> clear hx_ hy_ x_ y_)) | ((with_reducible first | refine hK_ _ _ ?_ | refine hK_ _ _ _ _ (Weak.refl _ _) ?_); clear hK_ K_) | clear hK_ K_)
  refine vc_range (j - i) (fun k σ' H' => σ' 2 = .s (I hi) ∧ σ' 4 = .s (.ptr H.n 0) ∧ σ' 7 = .s (.ptr (H.n + 1) 0) ∧ σ' 8 = .s (.ptr (H.n + 2) 0) ∧ σ' 9 = .s (I ((i + k : Nat) : Int)) ∧ HExt H H' ∧ H.n + 2 < H'.n ∧ H'.m H.n = some { cells := FL Pg.c (withP s i (i + k) a) } ∧ H'.m (H.n + 1) = some { cells := (wAt a k).c } ∧ H'.m (H.n + 2) = some { cells := FL Pg.c pz })
    ⟨(by simp only [go_sem, simprocAttr, ]), (by simp only [go_sem, simprocAttr, ]), (by simp only [go_sem, simprocAttr, ]), (by simp only [go_sem, simprocAttr, ]), (by simp only [go_sem, simprocAttr, ]), hxt, by simp, by simp [push_m, set_m, withP, upd_zero]; intro h; omega, by simp [push_m, set_m, wAt], by simp [push_m]⟩ ?_
  rintro k σ' H' hk ⟨s2, s4, s7, s8, s9, hx', hn1, hm0, hm1, hm2⟩
  have hn' := hx'.1
  have q01 : (H.n = H'.n) = False := eq_false (by omega)
  have q11 : (H.n + 1 = H'.n) = False := eq_false (by omega)
  have q21 : (H.n + 2 = H'.n) = False := eq_false (by omega)
  by_cases hkl : k < j - i
  · have hsx : s[i + k]? = some (pgD s (i + k)) := pgD_get (by omega)
    have hcur := upd_at s i (i + k) (fun p _ => pgAt (wAt a ((p : Int) - i))) hsx
    have hul := upd_len s i (i + k) (fun p _ => pgAt (wAt a ((p : Int) - i)))
    have hset := FL_setAll pg_len hcur (pgAt (wAt a k))
    have hsucc := upd_succ (f := fun p _ => pgAt (wAt a ((p : Int) - i))) (show i ≤ i + k by omega) hsx
    have ek : (((i + k : Nat) : Int) - i) = (k : Int) := by omega
    rw [ek] at hsucc
    rw [hsucc] at hset
    have hset' : setAll (FL Pg.c (withP s i (i + k) a)) ((i + k) * 5) (Pg.c ⟨true, (wAt a k).p, (wAt a k).sh, (wAt a k).b, (wAt a k).o⟩) = FL Pg.c (withP s i (i + (k + 1)) a) := hset
    have f1 : (((i + k : Nat) : Int) < (j : Int)) = True := eq_true (by omega)
    have f2 : (0 ≤ ((i + k : Nat) : Int)) = True := eq_true (by omega)
    have f3 : (((i + k : Nat) : Int) < 512) = True := eq_true (by omega)
    have f4 : ((i + k) * 5 + 5 ≤ 2560) = True := eq_true (by omega)
    have hsl2 : (FL Pg.c (withP s i (i + k) a)).length = 2560 := sp_len (by unfold withP; rw [hul]; exact hs)
    have e3 : IntKind.i64.wrap (((i + k : Nat) : Int) + 1) = ((i + (k + 1) : Nat) : Int) := by rw [wrap_id] <;> omega
    have hws := wAt_succ a k
    have ho2 : (wAt a k).b > 0 → IntKind.i64.wrap ((wAt a k).o + 4096) = (wAt a k).o + 4096 := by
      intro hb
      have hb : a.b > 0 := hb
      have : (wAt a k).o = a.o + 4096 * k := by simp [wAt, hb]
      rw [this, wrap_id] <;> omega
    have hb' : (wAt a k).b = a.b := rfl
    by_cases hb : (wAt a k).b > 0
    · rw [if_pos (by rw [← hb']; exact hb)] at hws
      repeat' (first | refine st ?_ | refine pblock_en rfl ?_ | (refine ss ?_; intro K_ hK_) | refine vops_gf rfl ?_ | refine vops_gt rfl ?_ | (refine sk ?_; intro k_ hk_; simp only [go_sem, simprocAttr, s2, s4, s7, s8, s9, w2, f1, f2, f3, f4, hm0, hm1, hm2, q01, q11, q21, hset', hsl2, eq_true hb, ho2 hb, e3]; (with_reducible first | refine hk_ _ _ ?_ | refine hk_ _ ?_); clear hk_ k_) | ((first | refine sg ?_ | refine sc ?_); intro x_ y_ hx_ hy_; simp only [go_sem, simprocAttr, s2, s4, s7, s8, s9, w2, f1, f2, f3, f4, hm0, hm1, hm2, q01, q11, q21, hset', hsl2, eq_true hb, ho2 hb, e3]; ((first | (with_reducible first | refine hx_ ?_ | refine hy_ ?_) | (with_reducible first | refine bI_split (fun h_ => hx_ ?_) (fun h_ => hy_ ?_) | refine bI_split (fun h_ => hy_ ?_) (fun h_ => hx_ ?_)) <;> try rw [h_]) <;> clear hx_ hy_ x_ y_)) | ((with_reducible first | refine hK_ _ _ ?_ | refine hK_ _ _ _ _ (Weak.refl _ _) ?_); clear hK_ K_) | clear hK_ K_)
      refine ⟨hkl, (by simp only [go_sem, simprocAttr, s2]), (by simp only [go_sem, simprocAttr, s4]), (by simp only [go_sem, simprocAttr, s7]), (by simp only [go_sem, simprocAttr, s8]), (by simp only [go_sem, simprocAttr, ]), hxt, by simp; omega, by simp [set_m, push_m], ?_, by simp [set_m, push_m, hm2]⟩
      rw [← hws]; simp [set_m, push_m]
    · rw [if_neg (by rw [← hb']; exact hb)] at hws
      repeat' (first | refine st ?_ | refine pblock_en rfl ?_ | (refine ss ?_; intro K_ hK_) | refine vops_gf rfl ?_ | refine vops_gt rfl ?_ | (refine sk ?_; intro k_ hk_; simp only [go_sem, simprocAttr, s2, s4, s7, s8, s9, w2, f1, f2, f3, f4, hm0, hm1, hm2, q01, q11, q21, hset', hsl2, eq_false hb, e3]; (with_reducible first | refine hk_ _ _ ?_ | refine hk_ _ ?_); clear hk_ k_) | ((first | refine sg ?_ | refine sc ?_); intro x_ y_ hx_ hy_; simp only [go_sem, simprocAttr, s2, s4, s7, s8, s9, w2, f1, f2, f3, f4, hm0, hm1, hm2, q01, q11, q21, hset', hsl2, eq_false hb, e3]; ((first | (with_reducible first | refine hx_ ?_ | refine hy_ ?_) | (with_reducible first | refine bI_split (fun h_ => hx_ ?_) (fun h_ => hy_ ?_) | refine bI_split (fun h_ => hy_ ?_) (fun h_ => hx_ ?_)) <;> try rw [h_]) <;> clear hx_ hy_ x_ y_)) | ((with_reducible first | refine hK_ _ _ ?_ | refine hK_ _ _ _ _ (Weak.refl _ _) ?_); clear hK_ K_) | clear hK_ K_)
      refine ⟨hkl, (by simp only [go_sem, simprocAttr, s2]), (by simp only [go_sem, simprocAttr, s4]), (by simp only [go_sem, simprocAttr, s7]), (by simp only [go_sem, simprocAttr, s8]), (by simp only [go_sem, simprocAttr, ]), hxt, by simp; omega, by simp [set_m, push_m], ?_, by simp [set_m, push_m, hm2]⟩
      rw [← hws]; simp [set_m, push_m, hm1]
  · have f1 : (((i + k : Nat) : Int) < (j : Int)) = False := eq_false (by omega)
    have hsl2 : (withP s i (i + k) a).length = 512 := by unfold withP; rw [upd_len]; exact hs
    have u1 := sp_take hsl2
    have u2 := sp_len hsl2
    have u4 : setAll (FL Pg.c pz) 0 (FL Pg.c (withP s i (i + k) a)) = FL Pg.c (withP s i (i + k) a) := setAll_full (by rw [u2, t3])
    have ew : withP s i (i + k) a = withP s i j a := by
      by_cases hij : i ≤ j
      · rw [show i + k = j by omega]
      · have : i + k = i := by omega
        rw [this]
        unfold withP
        rw [upd_zero]
        apply List.ext_getElem?
        intro p
        rw [upd_get]
        have : ¬ (i ≤ p ∧ p < j) := by omega
        simp [this]
    repeat' (first | refine st ?_ | refine pblock_en rfl ?_ | (refine ss ?_; intro K_ hK_) | refine vops_gf rfl ?_ | refine vops_gt rfl ?_ | (refine sk ?_; intro k_ hk_; simp only [go_sem, simprocAttr, s2, s4, s7, s8, s9, w2, f1, hm0, hm1, hm2, q01, q11, q21, u1, u2, u4, t3]; (with_reducible first | refine hk_ _ _ ?_ | refine hk_ _ ?_); clear hk_ k_) | ((first | refine sg ?_ | refine sc ?_); intro x_ y_ hx_ hy_; simp only [go_sem, simprocAttr, s2, s4, s7, s8, s9, w2, f1, hm0, hm1, hm2, q01, q11, q21, u1, u2, u4, t3]; ((first | (with_reducible first | refine hx_ ?_ | refine hy_ ?_) | (with_reducible first | refine bI_split (fun h_ => hx_ ?_) (fun h_ => hy_ ?_) | refine bI_split (fun h_ => hy_ ?_) (fun h_ => hx_ ?_)) <;> try rw [h_]) <;> clear hx_ hy_ x_ y_)) | ((with_reducible first | refine hK_ _ _ ?_ | refine hK_ _ _ _ _ (Weak.refl _ _) ?_); clear hK_ K_) | clear hK_ K_)
    exact ⟨by rw [ew], hxt⟩

theorem without_c (s : List Pg) (hs : s.length = 512) (lo hi : Int) (h0 : 0 ≤ lo) (hlo : lo ≤ 2097152) (h1 : 0 ≤ hi) (h2 : hi ≤ 2097152) (H : Heap) :
    ACalls Try.prog 47 [.agg (FL Pg.c s), .s (I lo), .s (I hi)] H (.agg (FL Pg.c (withoutP s (lo / 4096).toNat (hi / 4096).toNat))) H := by
  have t1 := sp_take hs
  have t2 := sp_len hs
  have t3 := sp_len pz_len
  have hz := bigz_c
  obtain ⟨i, hi0⟩ : ∃ i : Nat, (i : Int) = lo / 4096 := ⟨(lo / 4096).toNat, by omega⟩
  obtain ⟨j, hj0⟩ : ∃ j : Nat, (j : Int) = hi / 4096 := ⟨(hi / 4096).toNat, by omega⟩
  have w1 : IntKind.i64.wrap (lo.tdiv 4096) = (i : Int) := by rw [Int.tdiv_eq_ediv_of_nonneg (by omega), wrap_id (by omega) (by omega), hi0]
  have w2 : IntKind.i64.wrap (hi.tdiv 4096) = (j : Int) := by rw [Int.tdiv_eq_ediv_of_nonneg (by omega), wrap_id (by omega) (by omega), hj0]
  rw [← hi0, ← hj0, Int.toNat_natCast, Int.toNat_natCast]
  refine acalls_pure te_ok mix Try.func47 rfl Try.call47 (by kernel_rfl) (by kernel_rfl) rfl (FL_all pg_pers _) ?_
  simp only [Try.results47]
  repeat' (first | refine st ?_ | refine pblock_en rfl ?_ | (refine ss ?_; intro K_ hK_) | refine vops_gf rfl ?_ | refine vops_gt rfl ?_ | (refine sk ?_; intro k_ hk_; simp only [go_sem, simprocAttr, hz, w1, w2]; (with_reducible first | refine hk_ _ _ ?_ | refine hk_ _ ?_); clear hk_ k_) | ((first | refine sg ?_ | refine sc ?_); intro x_ y_ hx_ hy_; simp only [go_sem, simprocAttr, hz, w1, w2]; ((first | (with_reducible first | refine hx_ ?_ | refine hy_ ?_) | (with_reducible first | refine bI_split (fun h_ => hx_ ?_) (fun h_ => hy_ ?_) | refine bI_split (fun h_ => hy_ ?_) (fun h_ => hx_ ?_)) <;> try rw [h_]) <;> clear hx_ hy_ x_ y_)) | ((with_reducible first | refine hK_ _ _ ?_ | refine hK_ _ _ _ _ (Weak.refl _ _) ?_); clear hK_ K_) | clear hK_ K_)
  refine vc_range (j - i) (fun k σ' H' => σ' 2 = .s (I hi) ∧ σ' 3 = .s (.ptr H.n 0) ∧ σ' 6 = .s (.ptr (H.n + 1) 0) ∧ σ' 7 = .s (I ((i + k : Nat) : Int)) ∧ HExt H H' ∧ H.n + 1 < H'.n ∧ H'.m H.n = some { cells := FL Pg.c (withoutP s i (i + k)) } ∧ H'.m (H.n + 1) = some { cells := FL Pg.c pz })
    ⟨(by simp only [go_sem, simprocAttr, ]), (by simp only [go_sem, simprocAttr, ]), (by simp only [go_sem, simprocAttr, ]), (by simp only [go_sem, simprocAttr, ]), hxt, by simp, by simp [push_m, set_m, withoutP, upd_zero], by simp [push_m]⟩ ?_
  rintro k σ' H' hk ⟨s2, s3, s6, s7, hx', hn1, hm0, hm1⟩
  have hn' := hx'.1
  have q01 : (H.n = H'.n) = False := eq_false (by omega)
  have q11 : (H.n + 1 = H'.n) = False := eq_false (by omega)
  by_cases hkl : k < j - i
  · have hsx : s[i + k]? = some (pgD s (i + k)) := pgD_get (by omega)
    have hcur := upd_at s i (i + k) (fun _ _ => Pg.zero) hsx
    have hul := upd_len s i (i + k) (fun _ _ => Pg.zero)
    have hset := FL_setAll pg_len hcur Pg.zero
    have hsucc := upd_succ (f := fun _ _ => Pg.zero) (show i ≤ i + k by omega) hsx
    rw [hsucc] at hset
    have hset' : setAll (FL Pg.c (withoutP s i (i + k))) ((i + k) * 5) (Pg.c ⟨false, 0, false, 0, 0⟩) = FL Pg.c (withoutP s i (i + (k + 1))) := hset
    have f1 : (((i + k : Nat) : Int) < (j : Int)) = True := eq_true (by omega)
    have f2 : (0 ≤ ((i + k : Nat) : Int)) = True := eq_true (by omega)
    have f3 : (((i + k : Nat) : Int) < 512) = True := eq_true (by omega)
    have f4 : ((i + k) * 5 + 5 ≤ 2560) = True := eq_true (by omega)
    have hsl2 : (FL Pg.c (withoutP s i (i + k))).length = 2560 := sp_len (by unfold withoutP; rw [hul]; exact hs)
    have e3 : IntKind.i64.wrap (((i + k : Nat) : Int) + 1) = ((i + (k + 1) : Nat) : Int) := by rw [wrap_id] <;> omega
    repeat' (first | refine st ?_ | refine pblock_en rfl ?_ | (refine ss ?_; intro K_ hK_) | refine vops_gf rfl ?_ | refine vops_gt rfl ?_ | (refine sk ?_; intro k_ hk_; simp only [go_sem, simprocAttr, s2, s3, s6, s7, w2, f1, f2, f3, f4, hm0, hm1, q01, q11, hset', hsl2, e3]; (with_reducible first | refine hk_ _ _ ?_ | refine hk_ _ ?_); clear hk_ k_) | ((first | refine sg ?_ | refine sc ?_); intro x_ y_ hx_ hy_; simp only [go_sem, simprocAttr, s2, s3, s6, s7, w2, f1, f2, f3, f4, hm0, hm1, q01, q11, hset', hsl2, e3]; ((first | (with_reducible first | refine hx_ ?_ | refine hy_ ?_) | (with_reducible first | refine bI_split (fun h_ => hx_ ?_) (fun h_ => hy_ ?_) | refine bI_split (fun h_ => hy_ ?_) (fun h_ => hx_ ?_)) <;> try rw [h_]) <;> clear hx_ hy_ x_ y_)) | ((with_reducible first | refine hK_ _ _ ?_ | refine hK_ _ _ _ _ (Weak.refl _ _) ?_); clear hK_ K_) | clear hK_ K_)
    exact ⟨hkl, (by simp only [go_sem, simprocAttr, s2]), (by simp only [go_sem, simprocAttr, s3]), (by simp only [go_sem, simprocAttr, s6]), (by simp only [go_sem, simprocAttr, ]), hxt, by simp; omega, by simp [set_m, push_m], by simp [set_m, push_m, hm1]⟩
  · have f1 : (((i + k : Nat) : Int) < (j : Int)) = False := eq_false (by omega)
    have hsl2 : (withoutP s i (i + k)).length = 512 := by unfold withoutP; rw [upd_len]; exact hs
    have u1 := sp_take hsl2
    have u2 := sp_len hsl2
    have u4 : setAll (FL Pg.c pz) 0 (FL Pg.c (withoutP s i (i + k))) = FL Pg.c (withoutP s i (i + k)) := setAll_full (by rw [u2, t3])
    have ew : withoutP s i (i + k) = withoutP s i j := by
      by_cases hij : i ≤ j
      · rw [show i + k = j by omega]
      · have : i + k = i := by omega
        rw [this]
        unfold withoutP
        rw [upd_zero]
        apply List.ext_getElem?
        intro p
        rw [upd_get]
        have : ¬ (i ≤ p ∧ p < j) := by omega
        simp [this]
    repeat' (first | refine st ?_ | refine pblock_en rfl ?_ | (refine ss ?_; intro K_ hK_) | refine vops_gf rfl ?_ | refine vops_gt rfl ?_ | (refine sk ?_; intro k_ hk_; simp only [go_sem, simprocAttr, s2, s3, s6, s7, w2, f1, hm0, hm1, q01, q11, u1, u2, u4, t3]; (with_reducible first | refine hk_ _ _ ?_ | refine hk_ _ ?_); clear hk_ k_) | ((first | refine sg ?_ | refine sc ?_); intro x_ y_ hx_ hy_; simp only [go_sem, simprocAttr, s2, s3, s6, s7, w2, f1, hm0, hm1, q01, q11, u1, u2, u4, t3]; ((first | (with_reducible first | refine hx_ ?_ | refine hy_ ?_) | (with_reducible first | refine bI_split (fun h_ => hx_ ?_) (fun h_ => hy_ ?_) | refine bI_split (fun h_ => hy_ ?_) (fun h_ => hx_ ?_)) <;> try rw [h_]) <;> clear hx_ hy_ x_ y_)) | ((with_reducible first | refine hK_ _ _ ?_ | refine hK_ _ _ _ _ (Weak.refl _ _) ?_); clear hK_ K_) | clear hK_ K_)
    exact ⟨by rw [ew], hxt⟩
theorem withP_len (s : List Pg) (i j : Nat) (a : At) : (withP s i j a).length = s.length := upd_len _ _ _ _
theorem withoutP_len (s : List Pg) (i j : Nat) : (withoutP s i j).length = s.length := upd_len _ _ _ _

set_option maxRecDepth 8000 in
theorem rkept_c (l : List Ar) (s : List Pg) (hs : s.length = 512) (v : Int) (H : Heap) : ACalls Try.prog 42 [.s (LV Ar.c l), .agg (FL Pg.c s), .s (I v)] H (.tup [.s (LV Ar.c (rkeptS l s v).1), .agg (rkeptS l s v).2.c]) H := by
  have t1 := sp_take hs
  have t2 := sp_len hs
  have L1 := fun H => rlist_c s hs H
  refine acalls_pure te_ok mix Try.func42 rfl Try.call42 (by kernel_rfl) (by kernel_rfl) rfl rfl ?_; simp only [Try.results42]
  by_cases h : (listS s).length > 24
  · have e : rkeptS l s v = (l, ansE 9) := by simp [rkeptS, h]
    rw [e]
    have g : (((listS s).length : Int) > 24) = True := eq_true (by omega)
    repeat' (first | refine st ?_ | refine pblock_en rfl ?_ | (refine ss ?_; intro K_ hK_) | refine vops_gf rfl ?_ | refine vops_gt rfl ?_ | (refine sk ?_; intro k_ hk_; simp only [go_sem, simprocAttr, t1, t2, g]; (with_reducible first | refine hk_ _ _ ?_ | refine hk_ _ ?_); clear hk_ k_) | ((first | refine sg ?_ | refine sc ?_); intro x_ y_ hx_ hy_; simp only [go_sem, simprocAttr, t1, t2, g]; ((first | (with_reducible first | refine hx_ ?_ | refine hy_ ?_) | (with_reducible first | refine bI_split (fun h_ => hx_ ?_) (fun h_ => hy_ ?_) | refine bI_split (fun h_ => hy_ ?_) (fun h_ => hx_ ?_)) <;> try rw [h_]) <;> clear hx_ hy_ x_ y_)) | (with_reducible first | refine callv_pure (L1 _) ?_) | ((with_reducible first | refine hK_ _ _ ?_ | refine hK_ _ _ _ _ (Weak.refl _ _) ?_); clear hK_ K_) | clear hK_ K_)
    exact ⟨rfl, hxt⟩
  · have e : rkeptS l s v = (listS s, ansV v) := by simp [rkeptS, h]
    rw [e]
    have g : (((listS s).length : Int) > 24) = False := eq_false (by omega)
    repeat' (first | refine st ?_ | refine pblock_en rfl ?_ | (refine ss ?_; intro K_ hK_) | refine vops_gf rfl ?_ | refine vops_gt rfl ?_ | (refine sk ?_; intro k_ hk_; simp only [go_sem, simprocAttr, t1, t2, g]; (with_reducible first | refine hk_ _ _ ?_ | refine hk_ _ ?_); clear hk_ k_) | ((first | refine sg ?_ | refine sc ?_); intro x_ y_ hx_ hy_; simp only [go_sem, simprocAttr, t1, t2, g]; ((first | (with_reducible first | refine hx_ ?_ | refine hy_ ?_) | (with_reducible first | refine bI_split (fun h_ => hx_ ?_) (fun h_ => hy_ ?_) | refine bI_split (fun h_ => hy_ ?_) (fun h_ => hx_ ?_)) <;> try rw [h_]) <;> clear hx_ hy_ x_ y_)) | (with_reducible first | refine callv_pure (L1 _) ?_) | ((with_reducible first | refine hK_ _ _ ?_ | refine hK_ _ _ _ _ (Weak.refl _ _) ?_); clear hK_ K_) | clear hK_ K_)
    exact ⟨rfl, hxt⟩

set_option maxRecDepth 8000 in
theorem rplace_c (l : List Ar) (hl : l.length < 100000) (hf : ∀ a ∈ l, formed a = true) (a n f : Int) (h0 : 0 ≤ f) (h1 : f ≤ 1000000) (H : Heap) : ACalls Try.prog 24 [.s (LV Ar.c l), .s (I a), .s (I n), .s (I f)] H (.tup [.s (I (rplaceS l a n f).1), .s (I (rplaceS l a n f).2)]) H := by
  have hs := ofS_len l
  have O1 := fun H => of_c l hl hf H
  have m2 : f.tmod 2 = f % 2 := Int.tmod_eq_emod_of_nonneg h0
  have d2 : (IntKind.i64.wrap (f.tdiv 2)).tmod 2 = f / 2 % 2 := by rw [Int.tdiv_eq_ediv_of_nonneg h0, wrap_id (by omega) (by omega), Int.tmod_eq_emod_of_nonneg (by omega)]
  have d8 : (IntKind.i64.wrap (f.tdiv 8)).tmod 2 = f / 8 % 2 := by rw [Int.tdiv_eq_ediv_of_nonneg h0, wrap_id (by omega) (by omega), Int.tmod_eq_emod_of_nonneg (by omega)]
  have q8 : (f / 8 % 2 == 0) = decide (f / 8 % 2 = 0) := rfl
  refine acalls_pure te_ok mix Try.func24 rfl Try.call24 (by kernel_rfl) (by kernel_rfl) rfl rfl ?_; simp only [Try.results24]
  by_cases hf1 : f % 2 = 1
  · by_cases hr : (rangeS a n).2.2 = 0
    case neg =>
      have e : rplaceS l a n f = (0, (rangeS a n).2.2) := by unfold rplaceS; rw [if_pos hf1, if_pos hr]
      rw [e]
      repeat' (first | refine st ?_ | refine pblock_en rfl ?_ | (refine ss ?_; intro K_ hK_) | refine vops_gf rfl ?_ | refine vops_gt rfl ?_ | (refine sk ?_; intro k_ hk_; simp only [go_sem, simprocAttr, m2, beq_t hf1, bne_t hr]; (with_reducible first | refine hk_ _ _ ?_ | refine hk_ _ ?_); clear hk_ k_) | ((first | refine sg ?_ | refine sc ?_); intro x_ y_ hx_ hy_; simp only [go_sem, simprocAttr, m2, beq_t hf1, bne_t hr]; ((first | (with_reducible first | refine hx_ ?_ | refine hy_ ?_) | (with_reducible first | refine bI_split (fun h_ => hx_ ?_) (fun h_ => hy_ ?_) | refine bI_split (fun h_ => hy_ ?_) (fun h_ => hx_ ?_)) <;> try rw [h_]) <;> clear hx_ hy_ x_ y_)) | (with_reducible first | refine callv_pure (rrange_c _ _ _) ?_) | ((with_reducible first | refine hK_ _ _ ?_ | refine hK_ _ _ _ _ (Weak.refl _ _) ?_); clear hK_ K_) | clear hK_ K_)
      exact ⟨rfl, hxt⟩
    by_cases hf2 : f / 2 % 2 = 1
    · cases hsm : someP (ofS l) (rangeS a n).1 (rangeS a n).2.1
      · have e : rplaceS l a n f = (a, 0) := by unfold rplaceS; rw [if_pos hf1, if_neg (by simpa using hr), if_neg (by simp [hsm])]
        rw [e]
        repeat' (first | refine st ?_ | refine pblock_en rfl ?_ | (refine ss ?_; intro K_ hK_) | refine vops_gf rfl ?_ | refine vops_gt rfl ?_ | (refine sk ?_; intro k_ hk_; simp only [go_sem, simprocAttr, m2, d2, beq_t hf1, bne_f hr, beq_t hf2, hsm]; (with_reducible first | refine hk_ _ _ ?_ | refine hk_ _ ?_); clear hk_ k_) | ((first | refine sg ?_ | refine sc ?_); intro x_ y_ hx_ hy_; simp only [go_sem, simprocAttr, m2, d2, beq_t hf1, bne_f hr, beq_t hf2, hsm]; ((first | (with_reducible first | refine hx_ ?_ | refine hy_ ?_) | (with_reducible first | refine bI_split (fun h_ => hx_ ?_) (fun h_ => hy_ ?_) | refine bI_split (fun h_ => hy_ ?_) (fun h_ => hx_ ?_)) <;> try rw [h_]) <;> clear hx_ hy_ x_ y_)) | (with_reducible first | refine callv_pure (rrange_c _ _ _) ?_ | refine callv_pure (O1 _) ?_ | refine callv_pure (rsome_c _ hs _ _ _) ?_) | ((with_reducible first | refine hK_ _ _ ?_ | refine hK_ _ _ _ _ (Weak.refl _ _) ?_); clear hK_ K_) | clear hK_ K_)
        exact ⟨rfl, hxt⟩
      · have e : rplaceS l a n f = (0, 6) := by unfold rplaceS; rw [if_pos hf1, if_neg (by simpa using hr), if_pos ⟨hf2, hsm⟩]
        rw [e]
        repeat' (first | refine st ?_ | refine pblock_en rfl ?_ | (refine ss ?_; intro K_ hK_) | refine vops_gf rfl ?_ | refine vops_gt rfl ?_ | (refine sk ?_; intro k_ hk_; simp only [go_sem, simprocAttr, m2, d2, beq_t hf1, bne_f hr, beq_t hf2, hsm]; (with_reducible first | refine hk_ _ _ ?_ | refine hk_ _ ?_); clear hk_ k_) | ((first | refine sg ?_ | refine sc ?_); intro x_ y_ hx_ hy_; simp only [go_sem, simprocAttr, m2, d2, beq_t hf1, bne_f hr, beq_t hf2, hsm]; ((first | (with_reducible first | refine hx_ ?_ | refine hy_ ?_) | (with_reducible first | refine bI_split (fun h_ => hx_ ?_) (fun h_ => hy_ ?_) | refine bI_split (fun h_ => hy_ ?_) (fun h_ => hx_ ?_)) <;> try rw [h_]) <;> clear hx_ hy_ x_ y_)) | (with_reducible first | refine callv_pure (rrange_c _ _ _) ?_ | refine callv_pure (O1 _) ?_ | refine callv_pure (rsome_c _ hs _ _ _) ?_) | ((with_reducible first | refine hK_ _ _ ?_ | refine hK_ _ _ _ _ (Weak.refl _ _) ?_); clear hK_ K_) | clear hK_ K_)
        exact ⟨rfl, hxt⟩
    · have e : rplaceS l a n f = (a, 0) := by unfold rplaceS; rw [if_pos hf1, if_neg (by simpa using hr), if_neg (fun h => hf2 h.1)]
      rw [e]
      repeat' (first | refine st ?_ | refine pblock_en rfl ?_ | (refine ss ?_; intro K_ hK_) | refine vops_gf rfl ?_ | refine vops_gt rfl ?_ | (refine sk ?_; intro k_ hk_; simp only [go_sem, simprocAttr, m2, d2, beq_t hf1, bne_f hr, beq_f hf2]; (with_reducible first | refine hk_ _ _ ?_ | refine hk_ _ ?_); clear hk_ k_) | ((first | refine sg ?_ | refine sc ?_); intro x_ y_ hx_ hy_; simp only [go_sem, simprocAttr, m2, d2, beq_t hf1, bne_f hr, beq_f hf2]; ((first | (with_reducible first | refine hx_ ?_ | refine hy_ ?_) | (with_reducible first | refine bI_split (fun h_ => hx_ ?_) (fun h_ => hy_ ?_) | refine bI_split (fun h_ => hy_ ?_) (fun h_ => hx_ ?_)) <;> try rw [h_]) <;> clear hx_ hy_ x_ y_)) | (with_reducible first | refine callv_pure (rrange_c _ _ _) ?_) | ((with_reducible first | refine hK_ _ _ ?_ | refine hK_ _ _ _ _ (Weak.refl _ _) ?_); clear hK_ K_) | clear hK_ K_)
      exact ⟨rfl, hxt⟩
  by_cases hft : a ≠ 0 ∧ rfitsS l a n = true
  · have e : rplaceS l a n f = (a, 0) := by unfold rplaceS; rw [if_neg hf1, if_pos hft]
    obtain ⟨ha, hft⟩ := hft
    rw [e]
    repeat' (first | refine st ?_ | refine pblock_en rfl ?_ | (refine ss ?_; intro K_ hK_) | refine vops_gf rfl ?_ | refine vops_gt rfl ?_ | (refine sk ?_; intro k_ hk_; simp only [go_sem, simprocAttr, m2, beq_f hf1, bne_t ha, hft]; (with_reducible first | refine hk_ _ _ ?_ | refine hk_ _ ?_); clear hk_ k_) | ((first | refine sg ?_ | refine sc ?_); intro x_ y_ hx_ hy_; simp only [go_sem, simprocAttr, m2, beq_f hf1, bne_t ha, hft]; ((first | (with_reducible first | refine hx_ ?_ | refine hy_ ?_) | (with_reducible first | refine bI_split (fun h_ => hx_ ?_) (fun h_ => hy_ ?_) | refine bI_split (fun h_ => hy_ ?_) (fun h_ => hx_ ?_)) <;> try rw [h_]) <;> clear hx_ hy_ x_ y_)) | (with_reducible first | refine callv_pure (rfits_c l hl hf _ _ _) ?_) | ((with_reducible first | refine hK_ _ _ ?_ | refine hK_ _ _ _ _ (Weak.refl _ _) ?_); clear hK_ K_) | clear hK_ K_)
    exact ⟨rfl, hxt⟩
  have e : rplaceS l a n f = if chooseP (ofS l) n (decide (f / 8 % 2 = 0)) < 0 then (0, 5) else (chooseP (ofS l) n (decide (f / 8 % 2 = 0)), 0) := by unfold rplaceS; rw [if_neg hf1, if_neg hft]
  rw [e]
  by_cases hch : chooseP (ofS l) n (decide (f / 8 % 2 = 0)) < 0
  · rw [if_pos hch]
    by_cases ha : a = 0
    · repeat' (first | refine st ?_ | refine pblock_en rfl ?_ | (refine ss ?_; intro K_ hK_) | refine vops_gf rfl ?_ | refine vops_gt rfl ?_ | (refine sk ?_; intro k_ hk_; simp only [go_sem, simprocAttr, m2, d8, q8, beq_f hf1, bne_f ha, eq_true hch]; (with_reducible first | refine hk_ _ _ ?_ | refine hk_ _ ?_); clear hk_ k_) | ((first | refine sg ?_ | refine sc ?_); intro x_ y_ hx_ hy_; simp only [go_sem, simprocAttr, m2, d8, q8, beq_f hf1, bne_f ha, eq_true hch]; ((first | (with_reducible first | refine hx_ ?_ | refine hy_ ?_) | (with_reducible first | refine bI_split (fun h_ => hx_ ?_) (fun h_ => hy_ ?_) | refine bI_split (fun h_ => hy_ ?_) (fun h_ => hx_ ?_)) <;> try rw [h_]) <;> clear hx_ hy_ x_ y_)) | (with_reducible first | refine callv_pure (rfits_c l hl hf _ _ _) ?_ | refine callv_pure (choose_c l hl hf _ _ _) ?_) | ((with_reducible first | refine hK_ _ _ ?_ | refine hK_ _ _ _ _ (Weak.refl _ _) ?_); clear hK_ K_) | clear hK_ K_)
      exact ⟨rfl, hxt⟩
    · have hft' : rfitsS l a n = false := by simpa [ha] using hft
      repeat' (first | refine st ?_ | refine pblock_en rfl ?_ | (refine ss ?_; intro K_ hK_) | refine vops_gf rfl ?_ | refine vops_gt rfl ?_ | (refine sk ?_; intro k_ hk_; simp only [go_sem, simprocAttr, m2, d8, q8, beq_f hf1, bne_t ha, hft', eq_true hch]; (with_reducible first | refine hk_ _ _ ?_ | refine hk_ _ ?_); clear hk_ k_) | ((first | refine sg ?_ | refine sc ?_); intro x_ y_ hx_ hy_; simp only [go_sem, simprocAttr, m2, d8, q8, beq_f hf1, bne_t ha, hft', eq_true hch]; ((first | (with_reducible first | refine hx_ ?_ | refine hy_ ?_) | (with_reducible first | refine bI_split (fun h_ => hx_ ?_) (fun h_ => hy_ ?_) | refine bI_split (fun h_ => hy_ ?_) (fun h_ => hx_ ?_)) <;> try rw [h_]) <;> clear hx_ hy_ x_ y_)) | (with_reducible first | refine callv_pure (rfits_c l hl hf _ _ _) ?_ | refine callv_pure (choose_c l hl hf _ _ _) ?_) | ((with_reducible first | refine hK_ _ _ ?_ | refine hK_ _ _ _ _ (Weak.refl _ _) ?_); clear hK_ K_) | clear hK_ K_)
      exact ⟨rfl, hxt⟩
  · rw [if_neg hch]
    by_cases ha : a = 0
    · repeat' (first | refine st ?_ | refine pblock_en rfl ?_ | (refine ss ?_; intro K_ hK_) | refine vops_gf rfl ?_ | refine vops_gt rfl ?_ | (refine sk ?_; intro k_ hk_; simp only [go_sem, simprocAttr, m2, d8, q8, beq_f hf1, bne_f ha, eq_false hch]; (with_reducible first | refine hk_ _ _ ?_ | refine hk_ _ ?_); clear hk_ k_) | ((first | refine sg ?_ | refine sc ?_); intro x_ y_ hx_ hy_; simp only [go_sem, simprocAttr, m2, d8, q8, beq_f hf1, bne_f ha, eq_false hch]; ((first | (with_reducible first | refine hx_ ?_ | refine hy_ ?_) | (with_reducible first | refine bI_split (fun h_ => hx_ ?_) (fun h_ => hy_ ?_) | refine bI_split (fun h_ => hy_ ?_) (fun h_ => hx_ ?_)) <;> try rw [h_]) <;> clear hx_ hy_ x_ y_)) | (with_reducible first | refine callv_pure (rfits_c l hl hf _ _ _) ?_ | refine callv_pure (choose_c l hl hf _ _ _) ?_) | ((with_reducible first | refine hK_ _ _ ?_ | refine hK_ _ _ _ _ (Weak.refl _ _) ?_); clear hK_ K_) | clear hK_ K_)
      exact ⟨rfl, hxt⟩
    · have hft' : rfitsS l a n = false := by simpa [ha] using hft
      repeat' (first | refine st ?_ | refine pblock_en rfl ?_ | (refine ss ?_; intro K_ hK_) | refine vops_gf rfl ?_ | refine vops_gt rfl ?_ | (refine sk ?_; intro k_ hk_; simp only [go_sem, simprocAttr, m2, d8, q8, beq_f hf1, bne_t ha, hft', eq_false hch]; (with_reducible first | refine hk_ _ _ ?_ | refine hk_ _ ?_); clear hk_ k_) | ((first | refine sg ?_ | refine sc ?_); intro x_ y_ hx_ hy_; simp only [go_sem, simprocAttr, m2, d8, q8, beq_f hf1, bne_t ha, hft', eq_false hch]; ((first | (with_reducible first | refine hx_ ?_ | refine hy_ ?_) | (with_reducible first | refine bI_split (fun h_ => hx_ ?_) (fun h_ => hy_ ?_) | refine bI_split (fun h_ => hy_ ?_) (fun h_ => hx_ ?_)) <;> try rw [h_]) <;> clear hx_ hy_ x_ y_)) | (with_reducible first | refine callv_pure (rfits_c l hl hf _ _ _) ?_ | refine callv_pure (choose_c l hl hf _ _ _) ?_) | ((with_reducible first | refine hK_ _ _ ?_ | refine hK_ _ _ _ _ (Weak.refl _ _) ?_); clear hK_ K_) | clear hK_ K_)
      exact ⟨rfl, hxt⟩
end Go.Abs
/-
  samararef10.Map, Unmap.
-/
namespace Go.Abs
set_option linter.unusedVariables false
set_option linter.unusedSimpArgs false
open Go.Proofs
set_option maxHeartbeats 8000000
set_option maxRecDepth 8000

theorem rmap_c (l : List Ar) (hl : l.length < 100000) (hf : ∀ a ∈ l, formed a = true) (c : Ca) (H : Heap) : ACalls Try.prog 19 [.s (LV Ar.c l), .agg c.c] H (.tup [.s (LV Ar.c (rmapS l c).1), .agg (rmapS l c).2.c]) H := by
  have hs := ofS_len l
  have O1 := fun H => of_c l hl hf H
  have hsz := size_bd c.l
  have n10 : ((1 : Int) == 0) = false := rfl
  have n11 : ((1 : Int) != 0) = true := rfl
  refine acalls_pure te_ok mix Try.func19 rfl Try.call19 (by kernel_rfl) (by kernel_rfl) rfl rfl ?_; simp only [Try.results19]
  by_cases h1 : (sizeS c.l).2 = 0
  case neg =>
    have e : rmapS l c = (l, ansE (sizeS c.l).2) := by
      have e0 : rwrong0 c = (sizeS c.l).2 := by unfold rwrong0; rw [if_pos h1]
      have e1 : rwrongS c = (sizeS c.l).2 := by unfold rwrongS; rw [e0, if_pos h1]
      unfold rmapS; rw [e1, if_pos h1]
    rw [e]
    repeat' (first | refine st ?_ | refine pblock_en rfl ?_ | (refine ss ?_; intro K_ hK_) | refine vc_draw' (by kernel_rfl) fun K_ hK_ => ?_ | refine vops_gf rfl ?_ | refine vops_gt rfl ?_ | refine vd_gf rfl ?_ | refine vd_gt rfl ?_ | (refine sk ?_; intro k_ hk_; simp only [go_sem, simprocAttr, beq_f h1, bne_t h1]; (with_reducible first | refine hk_ _ _ ?_ | refine hk_ _ ?_ | refine hk_ _ _ (by (first | exact HExtR.refl _ | (refine HExtR.push ?_; first | rfl | simp only [go_sem, beq_f h1, bne_t h1]))) ?_); clear hk_ k_) | ((first | refine sg ?_ | refine sc ?_); intro x_ y_ hx_ hy_; simp only [go_sem, simprocAttr, beq_f h1, bne_t h1]; ((first | (with_reducible first | refine hx_ ?_ | refine hy_ ?_) | (with_reducible first | refine bI_split (fun h_ => hx_ ?_) (fun h_ => hy_ ?_) | refine bI_split (fun h_ => hy_ ?_) (fun h_ => hx_ ?_)) <;> try rw [h_]) <;> clear hx_ hy_ x_ y_)) | (with_reducible first | refine callv_pure (rsize_c _ _) ?_ | refine vcalld_pure (rsize_c _ _) ?_) | ((with_reducible first | refine hK_ _ _ ?_ | refine hK_ _ _ _ _ (Weak.refl _ _) ?_); clear hK_ K_) | clear hK_ K_)
    exact ⟨rfl, hxt⟩
  by_cases h2 : c.p < 0 ∨ c.p > 7 ∨ c.f < 0 ∨ c.f > 15 ∨ c.f % 4 = 2
  · have e : rmapS l c = (l, ansE 1) := by
      have e0 : rwrong0 c = 1 := by unfold rwrong0; rw [if_neg (by simpa using h1), if_pos h2]
      have e1 : rwrongS c = 1 := by unfold rwrongS; rw [e0, if_pos (by decide)]
      unfold rmapS; rw [e1, if_pos (by decide)]
    rw [e]
    by_cases b1 : c.p < 0
    · repeat' (first | refine st ?_ | refine pblock_en rfl ?_ | (refine ss ?_; intro K_ hK_) | refine vc_draw' (by kernel_rfl) fun K_ hK_ => ?_ | refine vops_gf rfl ?_ | refine vops_gt rfl ?_ | refine vd_gf rfl ?_ | refine vd_gt rfl ?_ | (refine sk ?_; intro k_ hk_; simp only [go_sem, simprocAttr, beq_t h1, eq_true b1, n10, n11]; (with_reducible first | refine hk_ _ _ ?_ | refine hk_ _ ?_ | refine hk_ _ _ (by (first | exact HExtR.refl _ | (refine HExtR.push ?_; first | rfl | simp only [go_sem, beq_t h1, eq_true b1, n10, n11]))) ?_); clear hk_ k_) | ((first | refine sg ?_ | refine sc ?_); intro x_ y_ hx_ hy_; simp only [go_sem, simprocAttr, beq_t h1, eq_true b1, n10, n11]; ((first | (with_reducible first | refine hx_ ?_ | refine hy_ ?_) | (with_reducible first | refine bI_split (fun h_ => hx_ ?_) (fun h_ => hy_ ?_) | refine bI_split (fun h_ => hy_ ?_) (fun h_ => hx_ ?_)) <;> try rw [h_]) <;> clear hx_ hy_ x_ y_)) | (with_reducible first | refine callv_pure (rsize_c _ _) ?_ | refine vcalld_pure (rsize_c _ _) ?_) | ((with_reducible first | refine hK_ _ _ ?_ | refine hK_ _ _ _ _ (Weak.refl _ _) ?_); clear hK_ K_) | clear hK_ K_)
      exact ⟨rfl, hxt⟩
    by_cases b2 : c.p > 7
    · repeat' (first | refine st ?_ | refine pblock_en rfl ?_ | (refine ss ?_; intro K_ hK_) | refine vc_draw' (by kernel_rfl) fun K_ hK_ => ?_ | refine vops_gf rfl ?_ | refine vops_gt rfl ?_ | refine vd_gf rfl ?_ | refine vd_gt rfl ?_ | (refine sk ?_; intro k_ hk_; simp only [go_sem, simprocAttr, beq_t h1, eq_false b1, eq_true b2, n10, n11]; (with_reducible first | refine hk_ _ _ ?_ | refine hk_ _ ?_ | refine hk_ _ _ (by (first | exact HExtR.refl _ | (refine HExtR.push ?_; first | rfl | simp only [go_sem, beq_t h1, eq_false b1, eq_true b2, n10, n11]))) ?_); clear hk_ k_) | ((first | refine sg ?_ | refine sc ?_); intro x_ y_ hx_ hy_; simp only [go_sem, simprocAttr, beq_t h1, eq_false b1, eq_true b2, n10, n11]; ((first | (with_reducible first | refine hx_ ?_ | refine hy_ ?_) | (with_reducible first | refine bI_split (fun h_ => hx_ ?_) (fun h_ => hy_ ?_) | refine bI_split (fun h_ => hy_ ?_) (fun h_ => hx_ ?_)) <;> try rw [h_]) <;> clear hx_ hy_ x_ y_)) | (with_reducible first | refine callv_pure (rsize_c _ _) ?_ | refine vcalld_pure (rsize_c _ _) ?_) | ((with_reducible first | refine hK_ _ _ ?_ | refine hK_ _ _ _ _ (Weak.refl _ _) ?_); clear hK_ K_) | clear hK_ K_)
      exact ⟨rfl, hxt⟩
    by_cases b3 : c.f < 0
    · repeat' (first | refine st ?_ | refine pblock_en rfl ?_ | (refine ss ?_; intro K_ hK_) | refine vc_draw' (by kernel_rfl) fun K_ hK_ => ?_ | refine vops_gf rfl ?_ | refine vops_gt rfl ?_ | refine vd_gf rfl ?_ | refine vd_gt rfl ?_ | (refine sk ?_; intro k_ hk_; simp only [go_sem, simprocAttr, beq_t h1, eq_false b1, eq_false b2, eq_true b3, n10, n11]; (with_reducible first | refine hk_ _ _ ?_ | refine hk_ _ ?_ | refine hk_ _ _ (by (first | exact HExtR.refl _ | (refine HExtR.push ?_; first | rfl | simp only [go_sem, beq_t h1, eq_false b1, eq_false b2, eq_true b3, n10, n11]))) ?_); clear hk_ k_) | ((first | refine sg ?_ | refine sc ?_); intro x_ y_ hx_ hy_; simp only [go_sem, simprocAttr, beq_t h1, eq_false b1, eq_false b2, eq_true b3, n10, n11]; ((first | (with_reducible first | refine hx_ ?_ | refine hy_ ?_) | (with_reducible first | refine bI_split (fun h_ => hx_ ?_) (fun h_ => hy_ ?_) | refine bI_split (fun h_ => hy_ ?_) (fun h_ => hx_ ?_)) <;> try rw [h_]) <;> clear hx_ hy_ x_ y_)) | (with_reducible first | refine callv_pure (rsize_c _ _) ?_ | refine vcalld_pure (rsize_c _ _) ?_) | ((with_reducible first | refine hK_ _ _ ?_ | refine hK_ _ _ _ _ (Weak.refl _ _) ?_); clear hK_ K_) | clear hK_ K_)
      exact ⟨rfl, hxt⟩
    by_cases b4 : c.f > 15
    · repeat' (first | refine st ?_ | refine pblock_en rfl ?_ | (refine ss ?_; intro K_ hK_) | refine vc_draw' (by kernel_rfl) fun K_ hK_ => ?_ | refine vops_gf rfl ?_ | refine vops_gt rfl ?_ | refine vd_gf rfl ?_ | refine vd_gt rfl ?_ | (refine sk ?_; intro k_ hk_; simp only [go_sem, simprocAttr, beq_t h1, eq_false b1, eq_false b2, eq_false b3, eq_true b4, n10, n11]; (with_reducible first | refine hk_ _ _ ?_ | refine hk_ _ ?_ | refine hk_ _ _ (by (first | exact HExtR.refl _ | (refine HExtR.push ?_; first | rfl | simp only [go_sem, beq_t h1, eq_false b1, eq_false b2, eq_false b3, eq_true b4, n10, n11]))) ?_); clear hk_ k_) | ((first | refine sg ?_ | refine sc ?_); intro x_ y_ hx_ hy_; simp only [go_sem, simprocAttr, beq_t h1, eq_false b1, eq_false b2, eq_false b3, eq_true b4, n10, n11]; ((first | (with_reducible first | refine hx_ ?_ | refine hy_ ?_) | (with_reducible first | refine bI_split (fun h_ => hx_ ?_) (fun h_ => hy_ ?_) | refine bI_split (fun h_ => hy_ ?_) (fun h_ => hx_ ?_)) <;> try rw [h_]) <;> clear hx_ hy_ x_ y_)) | (with_reducible first | refine callv_pure (rsize_c _ _) ?_ | refine vcalld_pure (rsize_c _ _) ?_) | ((with_reducible first | refine hK_ _ _ ?_ | refine hK_ _ _ _ _ (Weak.refl _ _) ?_); clear hK_ K_) | clear hK_ K_)
      exact ⟨rfl, hxt⟩
    have b5 : (c.f.tmod 4 == 2) = true := by rw [Int.tmod_eq_emod_of_nonneg (by omega)]; simp; omega
    repeat' (first | refine st ?_ | refine pblock_en rfl ?_ | (refine ss ?_; intro K_ hK_) | refine vc_draw' (by kernel_rfl) fun K_ hK_ => ?_ | refine vops_gf rfl ?_ | refine vops_gt rfl ?_ | refine vd_gf rfl ?_ | refine vd_gt rfl ?_ | (refine sk ?_; intro k_ hk_; simp only [go_sem, simprocAttr, beq_t h1, eq_false b1, eq_false b2, eq_false b3, eq_false b4, b5, n10, n11]; (with_reducible first | refine hk_ _ _ ?_ | refine hk_ _ ?_ | refine hk_ _ _ (by (first | exact HExtR.refl _ | (refine HExtR.push ?_; first | rfl | simp only [go_sem, beq_t h1, eq_false b1, eq_false b2, eq_false b3, eq_false b4, b5, n10, n11]))) ?_); clear hk_ k_) | ((first | refine sg ?_ | refine sc ?_); intro x_ y_ hx_ hy_; simp only [go_sem, simprocAttr, beq_t h1, eq_false b1, eq_false b2, eq_false b3, eq_false b4, b5, n10, n11]; ((first | (with_reducible first | refine hx_ ?_ | refine hy_ ?_) | (with_reducible first | refine bI_split (fun h_ => hx_ ?_) (fun h_ => hy_ ?_) | refine bI_split (fun h_ => hy_ ?_) (fun h_ => hx_ ?_)) <;> try rw [h_]) <;> clear hx_ hy_ x_ y_)) | (with_reducible first | refine callv_pure (rsize_c _ _) ?_ | refine vcalld_pure (rsize_c _ _) ?_) | ((with_reducible first | refine hK_ _ _ ?_ | refine hK_ _ _ _ _ (Weak.refl _ _) ?_); clear hK_ K_) | clear hK_ K_)
    exact ⟨rfl, hxt⟩
  have b1 : (c.p < 0) = False := eq_false (by omega)
  have b2 : (c.p > 7) = False := eq_false (by omega)
  have b3 : (c.f < 0) = False := eq_false (by omega)
  have b4 : (c.f > 15) = False := eq_false (by omega)
  have b5 : (c.f.tmod 4 == 2) = false := by rw [Int.tmod_eq_emod_of_nonneg (by omega)]; simp; omega
  have e0 : rwrong0 c = 0 := by unfold rwrong0; rw [if_neg (by simpa using h1), if_neg h2]
  by_cases h3 : backS c.b c.o (sizeS c.l).1 = 0
  case neg =>
    have e1 : rwrongS c = backS c.b c.o (sizeS c.l).1 := by unfold rwrongS; rw [e0, if_neg (by simp)]
    have e : rmapS l c = (l, ansE (backS c.b c.o (sizeS c.l).1)) := by
      unfold rmapS; rw [e1, if_pos h3]
    rw [e]
    repeat' (first | refine st ?_ | refine pblock_en rfl ?_ | (refine ss ?_; intro K_ hK_) | refine vc_draw' (by kernel_rfl) fun K_ hK_ => ?_ | refine vops_gf rfl ?_ | refine vops_gt rfl ?_ | refine vd_gf rfl ?_ | refine vd_gt rfl ?_ | (refine sk ?_; intro k_ hk_; simp only [go_sem, simprocAttr, beq_t h1, b1, b2, b3, b4, b5, beq_f h3, bne_t h3]; (with_reducible first | refine hk_ _ _ ?_ | refine hk_ _ ?_ | refine hk_ _ _ (by (first | exact HExtR.refl _ | (refine HExtR.push ?_; first | rfl | simp only [go_sem, beq_t h1, b1, b2, b3, b4, b5, beq_f h3, bne_t h3]))) ?_); clear hk_ k_) | ((first | refine sg ?_ | refine sc ?_); intro x_ y_ hx_ hy_; simp only [go_sem, simprocAttr, beq_t h1, b1, b2, b3, b4, b5, beq_f h3, bne_t h3]; ((first | (with_reducible first | refine hx_ ?_ | refine hy_ ?_) | (with_reducible first | refine bI_split (fun h_ => hx_ ?_) (fun h_ => hy_ ?_) | refine bI_split (fun h_ => hy_ ?_) (fun h_ => hx_ ?_)) <;> try rw [h_]) <;> clear hx_ hy_ x_ y_)) | (with_reducible first | refine callv_pure (rsize_c _ _) ?_ | refine callv_pure (rbacking_c _ _ _ hsz.1 hsz.2 _) ?_ | refine vcalld_pure (rsize_c _ _) ?_ | refine vcalld_pure (rbacking_c _ _ _ hsz.1 hsz.2 _) ?_) | ((with_reducible first | refine hK_ _ _ ?_ | refine hK_ _ _ _ _ (Weak.refl _ _) ?_); clear hK_ K_) | clear hK_ K_)
    exact ⟨rfl, hxt⟩
  have e1 : rwrongS c = 0 := by unfold rwrongS; rw [e0, if_neg (by simp), h3]
  have R1 := fun H => rplace_c l hl hf c.a (sizeS c.l).1 c.f (by omega) (by omega) H
  by_cases h4 : (rplaceS l c.a (sizeS c.l).1 c.f).2 = 0
  case neg =>
    have e : rmapS l c = (l, ansE (rplaceS l c.a (sizeS c.l).1 c.f).2) := by
      unfold rmapS; rw [e1, if_neg (by simp), if_pos h4]
    rw [e]
    repeat' (first | refine st ?_ | refine pblock_en rfl ?_ | (refine ss ?_; intro K_ hK_) | refine vc_draw' (by kernel_rfl) fun K_ hK_ => ?_ | refine vops_gf rfl ?_ | refine vops_gt rfl ?_ | refine vd_gf rfl ?_ | refine vd_gt rfl ?_ | (refine sk ?_; intro k_ hk_; simp only [go_sem, simprocAttr, beq_t h1, b1, b2, b3, b4, b5, beq_t h3, bne_t h4]; (with_reducible first | refine hk_ _ _ ?_ | refine hk_ _ ?_ | refine hk_ _ _ (by (first | exact HExtR.refl _ | (refine HExtR.push ?_; first | rfl | simp only [go_sem, beq_t h1, b1, b2, b3, b4, b5, beq_t h3, bne_t h4]))) ?_); clear hk_ k_) | ((first | refine sg ?_ | refine sc ?_); intro x_ y_ hx_ hy_; simp only [go_sem, simprocAttr, beq_t h1, b1, b2, b3, b4, b5, beq_t h3, bne_t h4]; ((first | (with_reducible first | refine hx_ ?_ | refine hy_ ?_) | (with_reducible first | refine bI_split (fun h_ => hx_ ?_) (fun h_ => hy_ ?_) | refine bI_split (fun h_ => hy_ ?_) (fun h_ => hx_ ?_)) <;> try rw [h_]) <;> clear hx_ hy_ x_ y_)) | (with_reducible first | refine callv_pure (rsize_c _ _) ?_ | refine callv_pure (rbacking_c _ _ _ hsz.1 hsz.2 _) ?_ | refine callv_pure (R1 _) ?_ | refine vcalld_pure (rsize_c _ _) ?_ | refine vcalld_pure (rbacking_c _ _ _ hsz.1 hsz.2 _) ?_ | refine vcalld_pure (R1 _) ?_) | ((with_reducible first | refine hK_ _ _ ?_ | refine hK_ _ _ _ _ (Weak.refl _ _) ?_); clear hK_ K_) | clear hK_ K_)
    exact ⟨rfl, hxt⟩
  obtain ⟨z1, z2, z3⟩ := sizeS_ok h1
  have hbd := rplace_bd (l := l) (a := c.a) (f := c.f) (n := (sizeS c.l).1) (by omega) (by omega) (by omega) h4
  have e : rmapS l c = rkeptS l (withP (ofS l) ((rplaceS l c.a (sizeS c.l).1 c.f).1 / 4096).toNat (((rplaceS l c.a (sizeS c.l).1 c.f).1 + (sizeS c.l).1) / 4096).toNat (rAt c)) (rplaceS l c.a (sizeS c.l).1 c.f).1 := by
    unfold rmapS; rw [e1, if_neg (by simp), if_neg (by simpa using h4)]
  rw [e]
  have hfo : 0 ≤ c.o ∧ c.o ≤ 2000000000000 := by
    unfold backS at h3
    have w0 : IntKind.i64.wrap (1099511627776 - (sizeS c.l).1) = 1099511627776 - (sizeS c.l).1 := wrap_id (by omega) (by omega)
    rw [wr, w0] at h3
    split at h3
    · simp at h3
    · split at h3
      · simp at h3
      · split at h3
        · simp at h3
        · omega
  generalize rplaceS l c.a (sizeS c.l).1 c.f = r at R1 h4 hbd
  have w : IntKind.i64.wrap (r.1 + (sizeS c.l).1) = r.1 + (sizeS c.l).1 := wrap_id (by omega) (by omega)
  have d4 : ((IntKind.i64.wrap (c.f.tdiv 4)).tmod 2 == 1) = decide (c.f / 4 % 2 = 1) := by
    rw [Int.tdiv_eq_ediv_of_nonneg (by omega), wrap_id (by omega) (by omega), Int.tmod_eq_emod_of_nonneg (by omega)]; rfl
  have W1 := fun H => with_c (ofS l) hs r.1 (r.1 + (sizeS c.l).1) (by omega) (by omega) (by omega) (by omega) (rAt c) hfo H
  simp only [rAt] at W1 ⊢
  have hwl := (withP_len (ofS l) (r.1 / 4096).toNat ((r.1 + (sizeS c.l).1) / 4096).toNat (rAt c)).trans hs
  simp only [rAt] at hwl
  generalize withP (ofS l) (r.1 / 4096).toNat ((r.1 + (sizeS c.l).1) / 4096).toNat _ = s2 at W1 hwl ⊢
  repeat' (first | refine st ?_ | refine pblock_en rfl ?_ | (refine ss ?_; intro K_ hK_) | refine vc_draw' (by kernel_rfl) fun K_ hK_ => ?_ | refine vops_gf rfl ?_ | refine vops_gt rfl ?_ | refine vd_gf rfl ?_ | refine vd_gt rfl ?_ | (refine sk ?_; intro k_ hk_; simp only [go_sem, simprocAttr, beq_t h1, b1, b2, b3, b4, b5, beq_t h3, bne_f h4, w, d4]; (with_reducible first | refine hk_ _ _ ?_ | refine hk_ _ ?_ | refine hk_ _ _ (by (first | exact HExtR.refl _ | (refine HExtR.push ?_; first | rfl | simp only [go_sem, beq_t h1, b1, b2, b3, b4, b5, beq_t h3, bne_f h4, w, d4]))) ?_); clear hk_ k_) | ((first | refine sg ?_ | refine sc ?_); intro x_ y_ hx_ hy_; simp only [go_sem, simprocAttr, beq_t h1, b1, b2, b3, b4, b5, beq_t h3, bne_f h4, w, d4]; ((first | (with_reducible first | refine hx_ ?_ | refine hy_ ?_) | (with_reducible first | refine bI_split (fun h_ => hx_ ?_) (fun h_ => hy_ ?_) | refine bI_split (fun h_ => hy_ ?_) (fun h_ => hx_ ?_)) <;> try rw [h_]) <;> clear hx_ hy_ x_ y_)) | (with_reducible first | refine callv_pure (rsize_c _ _) ?_ | refine callv_pure (rbacking_c _ _ _ hsz.1 hsz.2 _) ?_ | refine callv_pure (R1 _) ?_ | refine callv_pure (O1 _) ?_ | refine callv_pure (W1 _) ?_ | refine callv_pure (rkept_c l s2 hwl _ _) ?_ | refine vcalld_pure (rsize_c _ _) ?_ | refine vcalld_pure (rbacking_c _ _ _ hsz.1 hsz.2 _) ?_ | refine vcalld_pure (R1 _) ?_ | refine vcalld_pure (O1 _) ?_ | refine vcalld_pure (W1 _) ?_ | refine vcalld_pure (rkept_c l s2 hwl _ _) ?_) | ((with_reducible first | refine hK_ _ _ ?_ | refine hK_ _ _ _ _ (Weak.refl _ _) ?_); clear hK_ K_) | clear hK_ K_)
  exact ⟨rfl, hxt⟩

theorem runmap_c (l : List Ar) (hl : l.length < 100000) (hf : ∀ a ∈ l, formed a = true) (c : Ca) (H : Heap) : ACalls Try.prog 21 [.s (LV Ar.c l), .agg c.c] H (.tup [.s (LV Ar.c (runmapS l c).1), .agg (runmapS l c).2.c]) H := by
  have hs := ofS_len l
  have O1 := fun H => of_c l hl hf H
  refine acalls_pure te_ok mix Try.func21 rfl Try.call21 (by kernel_rfl) (by kernel_rfl) rfl rfl ?_; simp only [Try.results21]
  by_cases h1 : (rangeS c.a c.l).2.2 = 0
  case neg =>
    have e : runmapS l c = (l, ansE (rangeS c.a c.l).2.2) := by unfold runmapS; rw [if_pos h1]
    rw [e]
    repeat' (first | refine st ?_ | refine pblock_en rfl ?_ | (refine ss ?_; intro K_ hK_) | refine vops_gf rfl ?_ | refine vops_gt rfl ?_ | (refine sk ?_; intro k_ hk_; simp only [go_sem, simprocAttr, bne_t h1]; (with_reducible first | refine hk_ _ _ ?_ | refine hk_ _ ?_); clear hk_ k_) | ((first | refine sg ?_ | refine sc ?_); intro x_ y_ hx_ hy_; simp only [go_sem, simprocAttr, bne_t h1]; ((first | (with_reducible first | refine hx_ ?_ | refine hy_ ?_) | (with_reducible first | refine bI_split (fun h_ => hx_ ?_) (fun h_ => hy_ ?_) | refine bI_split (fun h_ => hy_ ?_) (fun h_ => hx_ ?_)) <;> try rw [h_]) <;> clear hx_ hy_ x_ y_)) | (with_reducible first | refine callv_pure (rrange_c _ _ _) ?_) | ((with_reducible first | refine hK_ _ _ ?_ | refine hK_ _ _ _ _ (Weak.refl _ _) ?_); clear hK_ K_) | clear hK_ K_)
    exact ⟨rfl, hxt⟩
  have e : runmapS l c = rkeptS l (withoutP (ofS l) ((rangeS c.a c.l).1 / 4096).toNat ((rangeS c.a c.l).2.1 / 4096).toNat) 0 := by unfold runmapS; rw [if_neg (by simpa using h1)]
  rw [e]
  obtain ⟨i, j, i1, i2, i3, i4, i5, i6, i7, i8⟩ := rangeS_ok h1
  have R1 := fun H => rrange_c c.a c.l H
  generalize rangeS c.a c.l = r at h1 i8 R1
  subst i8
  have W1 := fun H => without_c (ofS l) hs (4096 * (i : Int)) (4096 * (j : Int)) (by omega) (by omega) (by omega) (by omega) H
  have hwl := (withoutP_len (ofS l) (4096 * (i : Int) / 4096).toNat (4096 * (j : Int) / 4096).toNat).trans hs
  simp only at R1 ⊢
  generalize withoutP (ofS l) (4096 * (i : Int) / 4096).toNat (4096 * (j : Int) / 4096).toNat = s2 at W1 hwl ⊢
  have n00 : ((0 : Int) != 0) = false := rfl
  repeat' (first | refine st ?_ | refine pblock_en rfl ?_ | (refine ss ?_; intro K_ hK_) | refine vops_gf rfl ?_ | refine vops_gt rfl ?_ | (refine sk ?_; intro k_ hk_; simp only [go_sem, simprocAttr, n00]; (with_reducible first | refine hk_ _ _ ?_ | refine hk_ _ ?_); clear hk_ k_) | ((first | refine sg ?_ | refine sc ?_); intro x_ y_ hx_ hy_; simp only [go_sem, simprocAttr, n00]; ((first | (with_reducible first | refine hx_ ?_ | refine hy_ ?_) | (with_reducible first | refine bI_split (fun h_ => hx_ ?_) (fun h_ => hy_ ?_) | refine bI_split (fun h_ => hy_ ?_) (fun h_ => hx_ ?_)) <;> try rw [h_]) <;> clear hx_ hy_ x_ y_)) | (with_reducible first | refine callv_pure (R1 _) ?_ | refine callv_pure (O1 _) ?_ | refine callv_pure (W1 _) ?_ | refine callv_pure (rkept_c l s2 hwl _ _) ?_) | ((with_reducible first | refine hK_ _ _ ?_ | refine hK_ _ _ _ _ (Weak.refl _ _) ?_); clear hK_ K_) | clear hK_ K_)
  exact ⟨rfl, hxt⟩
end Go.Abs
