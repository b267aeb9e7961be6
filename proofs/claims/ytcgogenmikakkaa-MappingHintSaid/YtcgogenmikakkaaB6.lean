/-
  Joined texts: K5 K6 M1 M2 M3 M4 M5.
-/
import Derived.Test.YtcgogenmikakkaaB5
/-
  samararef07.List.
-/
namespace Go.Abs
set_option linter.unusedVariables false
set_option linter.unusedSimpArgs false
open Go.Proofs
set_option maxHeartbeats 8000000

theorem listStep_len (s : List Pg) (out : List Ar) (p : Nat) : (listStep s out p).length ≤ out.length + 1 := by
  unfold listStep
  split
  · split
    · simp
    · split <;> simp
  · omega
theorem listStep_no {s : List Pg} {out : List Ar} {p : Nat} (h : (pgD s p).i = false) : listStep s out p = out := by simp [listStep, h]
theorem listStep_nil {s : List Pg} {p : Nat} (h : (pgD s p).i = true) : listStep s [] p = [newAr (pgD s p) p] := by simp [listStep, h]
theorem listStep_app {s : List Pg} {init : List Ar} {z : Ar} {p : Nat} (h : (pgD s p).i = true) : listStep s (init ++ [z]) p = if z.e == 4096 * (p : Int) && afterS (pgD s (p - 1)).at (pgD s p).at then init ++ [{ z with e := 4096 * ((p + 1 : Nat) : Int) }] else init ++ [z] ++ [newAr (pgD s p) p] := by
  simp [listStep, h]
theorem pgD_get {s : List Pg} {p : Nat} (h : p < s.length) : s[p]? = some (pgD s p) := by simp [pgD, h]

theorem cell_at {l a r : List SV} {k : Nat} (h : l.drop k = a ++ r) (j : Nat) (hj : j < a.length) : l[k + j]? = a[j]? := by
  rw [← List.getElem?_drop, h, List.getElem?_append_left hj]
theorem take_at {l a r : List SV} {k j n : Nat} (h : l.drop k = a ++ r) (hj : j + n ≤ a.length) : (l.drop (k + j)).take n = (a.drop j).take n := by
  rw [← List.drop_drop, h, List.drop_append_of_le_length (by omega), List.take_append_of_le_length (by simp; omega)]
theorem rlist_g (s : List Pg) (hs : s.length = 512) (H : Heap) :
    ACallsR Try.prog 58 [.agg (FL Pg.c s)] H fun r H' => ∃ y, r = .s y ∧ IsG Ar.c 6 H.n H' y (listS s) ∧ HExt H H' := by
  refine acalls_of te_ok mix Try.func58 rfl Try.call58 (by kernel_rfl) (by kernel_rfl) rfl ?_; simp only [Try.results58]
  have t2 := sp_len hs
  repeat' (first | refine st ?_ | refine pblock_en rfl ?_ | (refine ss ?_; intro K_ hK_) | refine vc_draw' (by kernel_rfl) fun K_ hK_ => ?_ | refine vops_gf rfl ?_ | refine vops_gt rfl ?_ | refine vd_gf rfl ?_ | refine vd_gt rfl ?_ | (refine sk ?_; intro k_ hk_; simp only [go_sem, simprocAttr]; (with_reducible first | refine hk_ _ _ ?_ | refine hk_ _ ?_ | refine hk_ _ _ (by (first | exact HExtR.refl _ | (refine HExtR.push ?_; first | rfl | simp only [go_sem]))) ?_); clear hk_ k_) | ((first | refine sg ?_ | refine sc ?_); intro x_ y_ hx_ hy_; simp only [go_sem, simprocAttr]; ((first | (with_reducible first | refine hx_ ?_ | refine hy_ ?_) | (with_reducible first | refine bI_split (fun h_ => hx_ ?_) (fun h_ => hy_ ?_) | refine bI_split (fun h_ => hy_ ?_) (fun h_ => hx_ ?_)) <;> try rw [h_]) <;> clear hx_ hy_ x_ y_)) | ((with_reducible first | refine hK_ _ _ ?_ | refine hK_ _ _ _ _ (Weak.refl _ _) ?_); clear hK_ K_) | clear hK_ K_)
  refine vc_range 496 (fun i σ' H' => ∃ y, σ' 1 = .s (.ptr H.n 0) ∧ σ' 4 = .s (I ((16 + i : Nat) : Int)) ∧ σ' 3 = .s y ∧ HExt H H' ∧ H.n < H'.n ∧ H'.m H.n = some { cells := FL Pg.c s } ∧ IsG Ar.c 6 (H.n + 1) H' y ((List.range' 16 i).foldl (listStep s) []) ∧ ((List.range' 16 i).foldl (listStep s) []).length ≤ i) ⟨_, rfl, rfl, rfl, hxt, by simp, by simp [push_m], IsG.nil, by simp⟩ ?_
  rintro i σ' H' hi ⟨y, h1, h4, h3, hx', hn1, hm, hg, hlen⟩
  have hn' := hx'.1
  by_cases hil : i < 496
  · have hr : List.range' 16 (i + 1) = List.range' 16 i ++ [16 + i] := by rw [List.range'_1_concat]
    have hw : (List.range' 16 (i + 1)).foldl (listStep s) [] = listStep s ((List.range' 16 i).foldl (listStep s) []) (16 + i) := by rw [hr]; simp
    have hlen' := listStep_len s ((List.range' 16 i).foldl (listStep s) []) (16 + i)
    generalize (List.range' 16 i).foldl (listStep s) [] = out at hg hw hlen hlen'
    have hp := pgD_get (s := s) (p := 16 + i) (by omega)
    have hp1 := pgD_get (s := s) (p := 16 + i - 1) (by omega)
    have q1 := FL_at pg_len hp
    have q2 := FL_at pg_len hp1
    generalize hpe : pgD s (16 + i) = x at hp q1
    generalize hpe1 : pgD s (16 + i - 1) = x1 at hp1 q2
    have c0 : (FL Pg.c s)[(16 + i) * 5]? = some (Bo x.i) := cell_at q1 0 (by simp [pg_len])
    have d1 : ((FL Pg.c s).drop ((16 + i) * 5 + 1)).take 4 = x.at.c := take_at q1 (by simp [pg_len])
    have d2 : ((FL Pg.c s).drop ((16 + i - 1) * 5 + 1)).take 4 = x1.at.c := take_at q2 (by simp [pg_len])
    have b1 : ((16 + i) * 5 + 5 ≤ 2560) = True := eq_true (by omega)
    have b2 : ((16 + i - 1) * 5 + 5 ≤ 2560) = True := eq_true (by omega)
    have f1 : (((16 + i : Nat) : Int) < 512) = True := eq_true (by omega)
    have f2 : (0 ≤ ((16 + i : Nat) : Int)) = True := eq_true (by omega)
    have f3 : (((16 + i : Nat) : Int) < 512) = True := eq_true (by omega)
    have f4 : (0 ≤ ((16 + i - 1 : Nat) : Int)) = True := eq_true (by omega)
    have f5 : (((16 + i - 1 : Nat) : Int) < 512) = True := eq_true (by omega)
    have w1 : IntKind.i64.wrap (((16 + i : Nat) : Int) + 1) = ((16 + (i + 1) : Nat) : Int) := by rw [wrap_id] <;> omega
    have w2 : IntKind.i64.wrap (((16 + i : Nat) : Int) - 1) = ((16 + i - 1 : Nat) : Int) := by rw [wrap_id] <;> omega
    have w3 : IntKind.i64.wrap (4096 * ((16 + i : Nat) : Int)) = 4096 * ((16 + i : Nat) : Int) := wrap_id (by omega) (by omega)
    have w4 : IntKind.i64.wrap (4096 * ((16 + (i + 1) : Nat) : Int)) = 4096 * ((16 + (i + 1) : Nat) : Int) := wrap_id (by omega) (by omega)
    cases hxi : x.i with
    | false =>
      rw [listStep_no (by rw [hpe]; exact hxi)] at hw
      rw [hxi] at c0
      repeat' (first | refine st ?_ | refine pblock_en rfl ?_ | (refine ss ?_; intro K_ hK_) | refine vc_draw' (by kernel_rfl) fun K_ hK_ => ?_ | refine vops_gf rfl ?_ | refine vops_gt rfl ?_ | refine vd_gf rfl ?_ | refine vd_gt rfl ?_ | (refine sk ?_; intro k_ hk_; simp only [go_sem, simprocAttr, h1, h4, h3, hm, nlt hn1, nlt0 hn1, f1, f2, f3, c0, w1]; (with_reducible first | refine hk_ _ _ ?_ | refine hk_ _ ?_ | refine hk_ _ _ (by (first | exact HExtR.refl _ | (refine HExtR.push ?_; first | rfl | simp only [go_sem, h1, h4, h3, hm, nlt hn1, nlt0 hn1, f1, f2, f3, c0, w1]))) ?_); clear hk_ k_) | ((first | refine sg ?_ | refine sc ?_); intro x_ y_ hx_ hy_; simp only [go_sem, simprocAttr, h1, h4, h3, hm, nlt hn1, nlt0 hn1, f1, f2, f3, c0, w1]; ((first | (with_reducible first | refine hx_ ?_ | refine hy_ ?_) | (with_reducible first | refine bI_split (fun h_ => hx_ ?_) (fun h_ => hy_ ?_) | refine bI_split (fun h_ => hy_ ?_) (fun h_ => hx_ ?_)) <;> try rw [h_]) <;> clear hx_ hy_ x_ y_)) | ((with_reducible first | refine hK_ _ _ ?_ | refine hK_ _ _ _ _ (Weak.refl _ _) ?_); clear hK_ K_) | clear hK_ K_)
      exact ⟨hil, y, (by simp only [go_sem, simprocAttr, h1]), (by simp only [go_sem, simprocAttr, ]), (by simp only [go_sem, simprocAttr, h3]), hx', hn1, hm, by rw [hw]; exact hg, by rw [hw]; omega⟩
    | true =>
      rw [hxi] at c0
      have hpi : (pgD s (16 + i)).i = true := by rw [hpe]; exact hxi
      rcases List.eq_nil_or_concat out with rfl | ⟨init, z, rfl⟩
      · rw [listStep_nil hpi, hpe] at hw
        rcases hg with ⟨rfl, -, -⟩ | ⟨c, rfl, hc0, hcn, hc⟩
        · repeat' (first | refine st ?_ | refine pblock_en rfl ?_ | (refine ss ?_; intro K_ hK_) | refine vc_draw' (by kernel_rfl) fun K_ hK_ => ?_ | refine vops_gf rfl ?_ | refine vops_gt rfl ?_ | refine vd_gf rfl ?_ | refine vd_gt rfl ?_ | (refine sk ?_; intro k_ hk_; simp only [go_sem, simprocAttr, h1, h4, h3, hm, nlt hn1, nlt0 hn1, f1, f2, f3, c0, d1, b1, w1, w3, w4, t2]; (with_reducible first | refine hk_ _ _ ?_ | refine hk_ _ ?_ | refine hk_ _ _ (by (first | exact HExtR.refl _ | (refine HExtR.push ?_; first | rfl | simp only [go_sem, h1, h4, h3, hm, nlt hn1, nlt0 hn1, f1, f2, f3, c0, d1, b1, w1, w3, w4, t2]))) ?_); clear hk_ k_) | ((first | refine sg ?_ | refine sc ?_); intro x_ y_ hx_ hy_; simp only [go_sem, simprocAttr, h1, h4, h3, hm, nlt hn1, nlt0 hn1, f1, f2, f3, c0, d1, b1, w1, w3, w4, t2]; ((first | (with_reducible first | refine hx_ ?_ | refine hy_ ?_) | (with_reducible first | refine bI_split (fun h_ => hx_ ?_) (fun h_ => hy_ ?_) | refine bI_split (fun h_ => hy_ ?_) (fun h_ => hx_ ?_)) <;> try rw [h_]) <;> clear hx_ hy_ x_ y_)) | ((with_reducible first | refine hK_ _ _ ?_ | refine hK_ _ _ _ _ (Weak.refl _ _) ?_); clear hK_ K_) | clear hK_ K_)
          refine ⟨hil, _, (by simp only [go_sem, simprocAttr, h1]), (by simp only [go_sem, simprocAttr, ]), (by (try simp only [go_sem, simprocAttr, h3]); first | done | exact rfl), hxt, by (try simp only [Heap.push_n, Heap.set_n]); omega, by simp [push_m, set_m, nlt hn1, nlt0 hn1, hm] <;> omega, ?_, by rw [hw]; simp⟩
          rw [hw]
          exact IsGc.mk (by (try simp only [Heap.push_n, Heap.set_n]); omega) (by (try simp only [Heap.push_n, Heap.set_n]); omega) (by simp [push_m, set_m, FL_one, Nat.add_assoc]; rfl) rfl
        · simp only [List.length_nil, FL_nil] at h3 hc
          have hcH : (H.n = c) = False := eq_false (by omega)
          repeat' (first | refine st ?_ | refine pblock_en rfl ?_ | (refine ss ?_; intro K_ hK_) | refine vc_draw' (by kernel_rfl) fun K_ hK_ => ?_ | refine vops_gf rfl ?_ | refine vops_gt rfl ?_ | refine vd_gf rfl ?_ | refine vd_gt rfl ?_ | (refine sk ?_; intro k_ hk_; simp only [go_sem, simprocAttr, h1, h4, h3, hm, nlt hn1, nlt0 hn1, f1, f2, f3, c0, d1, b1, w1, w3, w4, t2, hc, nlt hcn, nlt0 hcn]; (with_reducible first | refine hk_ _ _ ?_ | refine hk_ _ ?_ | refine hk_ _ _ (by (first | exact HExtR.refl _ | (refine HExtR.push ?_; first | rfl | simp only [go_sem, h1, h4, h3, hm, nlt hn1, nlt0 hn1, f1, f2, f3, c0, d1, b1, w1, w3, w4, t2, hc, nlt hcn, nlt0 hcn]))) ?_); clear hk_ k_) | ((first | refine sg ?_ | refine sc ?_); intro x_ y_ hx_ hy_; simp only [go_sem, simprocAttr, h1, h4, h3, hm, nlt hn1, nlt0 hn1, f1, f2, f3, c0, d1, b1, w1, w3, w4, t2, hc, nlt hcn, nlt0 hcn]; ((first | (with_reducible first | refine hx_ ?_ | refine hy_ ?_) | (with_reducible first | refine bI_split (fun h_ => hx_ ?_) (fun h_ => hy_ ?_) | refine bI_split (fun h_ => hy_ ?_) (fun h_ => hx_ ?_)) <;> try rw [h_]) <;> clear hx_ hy_ x_ y_)) | ((with_reducible first | refine hK_ _ _ ?_ | refine hK_ _ _ _ _ (Weak.refl _ _) ?_); clear hK_ K_) | clear hK_ K_)
          refine ⟨hil, _, (by simp only [go_sem, simprocAttr, h1]), (by simp only [go_sem, simprocAttr, ]), (by (try simp only [go_sem, simprocAttr, h3]); first | done | exact rfl), hxt, by (try simp only [Heap.push_n, Heap.set_n]); omega, by simp [push_m, set_m, nlt hn1, nlt0 hn1, hm, hcH] <;> omega, ?_, by rw [hw]; simp⟩
          rw [hw]
          exact IsGc.mk (by (try simp only [Heap.push_n, Heap.set_n]); omega) (by (try simp only [Heap.push_n, Heap.set_n]); omega) (by simp [push_m, set_m, FL_one, Nat.add_assoc]; rfl) rfl
      · rw [List.concat_eq_append] at hg hw hlen hlen'
        have hll : (init ++ [z]).length = init.length + 1 := by simp
        rcases hg with ⟨-, h0, -⟩ | ⟨c, rfl, hc0, hcn, hc⟩
        · simp at h0
        have hcH : (H.n = c) = False := eq_false (by omega)
        have hcH' : (c = H.n) = False := eq_false (by omega)
        have hcap : (init.length + 1 + 1) * 48 ≤ 70368744177664 := by omega
        have hlast : (init ++ [z])[init.length]? = some z := by simp
        have e1 := FL_at ar_len hlast
        have e2 : (FL Ar.c (init ++ [z])).length = (init.length + 1) * 6 := by rw [FL_len ar_len, hll]
        have e3 : (FL Ar.c (init ++ [z]))[init.length * 6 + 1]? = some (I z.e) := cell_at e1 1 (by simp [ar_len])
        have hcl : init.length * 6 + 2 ≤ (init.length + 1) * 6 := by omega
        have hset : (FL Ar.c (init ++ [z])).set (init.length * 6 + 1) (I (4096 * ((16 + (i + 1) : Nat) : Int))) = FL Ar.c (init ++ [{ z with e := 4096 * ((16 + (i + 1) : Nat) : Int) }]) := by
          rw [FL_set ar_len hlast (j := 1) (by omega) (b := { z with e := 4096 * ((16 + (i + 1) : Nat) : Int) }) rfl]; simp
        rw [hll] at h3
        rw [listStep_app hpi, hpe, hpe1] at hw
        have hp' := wrap_pred (n := init.length + 1) (by omega) (by omega)
        simp only [Nat.add_sub_cancel] at hp'
        have i1 := ilt (i := init.length) (n := init.length + 1) (by omega)
        have i2 := ipos (i := init.length + 1) (by omega)
        cases hj1 : z.e == 4096 * ((16 + i : Nat) : Int) with
        | false =>
          simp only [hj1, Bool.false_and, Bool.false_eq_true, if_false] at hw
          repeat' (first | refine st ?_ | refine pblock_en rfl ?_ | (refine ss ?_; intro K_ hK_) | refine vc_draw' (by kernel_rfl) fun K_ hK_ => ?_ | refine vops_gf rfl ?_ | refine vops_gt rfl ?_ | refine vd_gf rfl ?_ | refine vd_gt rfl ?_ | (refine sk ?_; intro k_ hk_; simp only [go_sem, simprocAttr, h1, h4, h3, hm, nlt hn1, nlt0 hn1, f1, f2, f3, c0, d1, b1, w1, w3, w4, t2, hc, nlt hcn, nlt0 hcn, hcH, hcH', e2, e3, hcl, hj1, hp', i1, i2, hll, hcap]; (with_reducible first | refine hk_ _ _ ?_ | refine hk_ _ ?_ | refine hk_ _ _ (by (first | exact HExtR.refl _ | (refine HExtR.push ?_; first | rfl | simp only [go_sem, h1, h4, h3, hm, nlt hn1, nlt0 hn1, f1, f2, f3, c0, d1, b1, w1, w3, w4, t2, hc, nlt hcn, nlt0 hcn, hcH, hcH', e2, e3, hcl, hj1, hp', i1, i2, hll, hcap]))) ?_); clear hk_ k_) | ((first | refine sg ?_ | refine sc ?_); intro x_ y_ hx_ hy_; simp only [go_sem, simprocAttr, h1, h4, h3, hm, nlt hn1, nlt0 hn1, f1, f2, f3, c0, d1, b1, w1, w3, w4, t2, hc, nlt hcn, nlt0 hcn, hcH, hcH', e2, e3, hcl, hj1, hp', i1, i2, hll, hcap]; ((first | (with_reducible first | refine hx_ ?_ | refine hy_ ?_) | (with_reducible first | refine bI_split (fun h_ => hx_ ?_) (fun h_ => hy_ ?_) | refine bI_split (fun h_ => hy_ ?_) (fun h_ => hx_ ?_)) <;> try rw [h_]) <;> clear hx_ hy_ x_ y_)) | (with_reducible first | refine callv_pure (after_c _ _ _) ?_ | refine vcalld_pure (after_c _ _ _) ?_) | ((with_reducible first | refine hK_ _ _ ?_ | refine hK_ _ _ _ _ (Weak.refl _ _) ?_); clear hK_ K_) | clear hK_ K_)
          refine ⟨hil, _, (by simp only [go_sem, simprocAttr, h1]), (by simp only [go_sem, simprocAttr, ]), (by (try simp only [go_sem, simprocAttr, h3]); first | done | exact rfl), hxt, by (try simp only [Heap.push_n, Heap.set_n]); omega, by simp [push_m, set_m, nlt hn1, nlt0 hn1, hm, hcH] <;> omega, ?_, by rw [hw]; simp at hlen ⊢; omega⟩
          rw [hw]
          exact IsGc.mk (by (try simp only [Heap.push_n, Heap.set_n]); omega) (by (try simp only [Heap.push_n, Heap.set_n]); omega) (by simp [push_m, set_m, FL_app, FL_cons, FL_nil, Nat.add_assoc]; rfl) (by simp)
        | true =>
          cases hj2 : afterS x1.at x.at with
          | false =>
            simp only [hj1, hj2, Bool.and_false, Bool.false_eq_true, if_false] at hw
            repeat' (first | refine st ?_ | refine pblock_en rfl ?_ | (refine ss ?_; intro K_ hK_) | refine vc_draw' (by kernel_rfl) fun K_ hK_ => ?_ | refine vops_gf rfl ?_ | refine vops_gt rfl ?_ | refine vd_gf rfl ?_ | refine vd_gt rfl ?_ | (refine sk ?_; intro k_ hk_; simp only [go_sem, simprocAttr, h1, h4, h3, hm, nlt hn1, nlt0 hn1, f1, f2, f3, f4, f5, c0, d1, d2, b1, b2, w1, w2, w3, w4, t2, hc, nlt hcn, nlt0 hcn, hcH, hcH', e2, e3, hcl, hj1, hj2, hp', i1, i2, hll, hcap]; (with_reducible first | refine hk_ _ _ ?_ | refine hk_ _ ?_ | refine hk_ _ _ (by (first | exact HExtR.refl _ | (refine HExtR.push ?_; first | rfl | simp only [go_sem, h1, h4, h3, hm, nlt hn1, nlt0 hn1, f1, f2, f3, f4, f5, c0, d1, d2, b1, b2, w1, w2, w3, w4, t2, hc, nlt hcn, nlt0 hcn, hcH, hcH', e2, e3, hcl, hj1, hj2, hp', i1, i2, hll, hcap]))) ?_); clear hk_ k_) | ((first | refine sg ?_ | refine sc ?_); intro x_ y_ hx_ hy_; simp only [go_sem, simprocAttr, h1, h4, h3, hm, nlt hn1, nlt0 hn1, f1, f2, f3, f4, f5, c0, d1, d2, b1, b2, w1, w2, w3, w4, t2, hc, nlt hcn, nlt0 hcn, hcH, hcH', e2, e3, hcl, hj1, hj2, hp', i1, i2, hll, hcap]; ((first | (with_reducible first | refine hx_ ?_ | refine hy_ ?_) | (with_reducible first | refine bI_split (fun h_ => hx_ ?_) (fun h_ => hy_ ?_) | refine bI_split (fun h_ => hy_ ?_) (fun h_ => hx_ ?_)) <;> try rw [h_]) <;> clear hx_ hy_ x_ y_)) | (with_reducible first | refine callv_pure (after_c _ _ _) ?_ | refine vcalld_pure (after_c _ _ _) ?_) | ((with_reducible first | refine hK_ _ _ ?_ | refine hK_ _ _ _ _ (Weak.refl _ _) ?_); clear hK_ K_) | clear hK_ K_)
            refine ⟨hil, _, (by simp only [go_sem, simprocAttr, h1]), (by simp only [go_sem, simprocAttr, ]), (by (try simp only [go_sem, simprocAttr, h3]); first | done | exact rfl), hxt, by (try simp only [Heap.push_n, Heap.set_n]); omega, by simp [push_m, set_m, nlt hn1, nlt0 hn1, hm, hcH] <;> omega, ?_, by rw [hw]; simp at hlen ⊢; omega⟩
            rw [hw]
            exact IsGc.mk (by (try simp only [Heap.push_n, Heap.set_n]); omega) (by (try simp only [Heap.push_n, Heap.set_n]); omega) (by simp [push_m, set_m, FL_app, FL_cons, FL_nil, Nat.add_assoc]; rfl) (by simp)
          | true =>
            simp only [hj1, hj2, Bool.and_true, if_true] at hw
            repeat' (first | refine st ?_ | refine pblock_en rfl ?_ | (refine ss ?_; intro K_ hK_) | refine vc_draw' (by kernel_rfl) fun K_ hK_ => ?_ | refine vops_gf rfl ?_ | refine vops_gt rfl ?_ | refine vd_gf rfl ?_ | refine vd_gt rfl ?_ | (refine sk ?_; intro k_ hk_; simp only [go_sem, simprocAttr, h1, h4, h3, hm, nlt hn1, nlt0 hn1, f1, f2, f3, f4, f5, c0, d1, d2, b1, b2, w1, w2, w3, w4, t2, hc, nlt hcn, nlt0 hcn, hcH, hcH', e2, e3, hcl, hset, hj1, hj2, hp', i1, i2, hll, hcap]; (with_reducible first | refine hk_ _ _ ?_ | refine hk_ _ ?_ | refine hk_ _ _ (by (first | exact HExtR.refl _ | (refine HExtR.push ?_; first | rfl | simp only [go_sem, h1, h4, h3, hm, nlt hn1, nlt0 hn1, f1, f2, f3, f4, f5, c0, d1, d2, b1, b2, w1, w2, w3, w4, t2, hc, nlt hcn, nlt0 hcn, hcH, hcH', e2, e3, hcl, hset, hj1, hj2, hp', i1, i2, hll, hcap]))) ?_); clear hk_ k_) | ((first | refine sg ?_ | refine sc ?_); intro x_ y_ hx_ hy_; simp only [go_sem, simprocAttr, h1, h4, h3, hm, nlt hn1, nlt0 hn1, f1, f2, f3, f4, f5, c0, d1, d2, b1, b2, w1, w2, w3, w4, t2, hc, nlt hcn, nlt0 hcn, hcH, hcH', e2, e3, hcl, hset, hj1, hj2, hp', i1, i2, hll, hcap]; ((first | (with_reducible first | refine hx_ ?_ | refine hy_ ?_) | (with_reducible first | refine bI_split (fun h_ => hx_ ?_) (fun h_ => hy_ ?_) | refine bI_split (fun h_ => hy_ ?_) (fun h_ => hx_ ?_)) <;> try rw [h_]) <;> clear hx_ hy_ x_ y_)) | (with_reducible first | refine callv_pure (after_c _ _ _) ?_ | refine vcalld_pure (after_c _ _ _) ?_) | ((with_reducible first | refine hK_ _ _ ?_ | refine hK_ _ _ _ _ (Weak.refl _ _) ?_); clear hK_ K_) | clear hK_ K_)
            refine ⟨hil, _, (by simp only [go_sem, simprocAttr, h1]), (by simp only [go_sem, simprocAttr, ]), (by (try simp only [go_sem, simprocAttr, h3]); first | done | exact rfl), hxt, by (try simp only [Heap.push_n, Heap.set_n]); omega, by simp [push_m, set_m, nlt hn1, nlt0 hn1, hm, hcH] <;> omega, ?_, by rw [hw]; simp at hlen ⊢; omega⟩
            rw [hw]
            exact IsGc.mk (by (try simp only [Heap.push_n, Heap.set_n]); omega) (by (try simp only [Heap.push_n, Heap.set_n]); omega) (by simp [push_m, set_m, nlt hcn, nlt0 hcn]; rfl) (by simp)
  · have ei : i = 496 := by omega
    subst ei
    have f1 : ((((16 + 496 : Nat) : Nat) : Int) < 512) = False := eq_false (by omega)
    repeat' (first | refine st ?_ | refine pblock_en rfl ?_ | (refine ss ?_; intro K_ hK_) | refine vc_draw' (by kernel_rfl) fun K_ hK_ => ?_ | refine vops_gf rfl ?_ | refine vops_gt rfl ?_ | refine vd_gf rfl ?_ | refine vd_gt rfl ?_ | (refine sk ?_; intro k_ hk_; simp only [go_sem, simprocAttr, h1, h4, h3, f1]; (with_reducible first | refine hk_ _ _ ?_ | refine hk_ _ ?_ | refine hk_ _ _ (by (first | exact HExtR.refl _ | (refine HExtR.push ?_; first | rfl | simp only [go_sem, h1, h4, h3, f1]))) ?_); clear hk_ k_) | ((first | refine sg ?_ | refine sc ?_); intro x_ y_ hx_ hy_; simp only [go_sem, simprocAttr, h1, h4, h3, f1]; ((first | (with_reducible first | refine hx_ ?_ | refine hy_ ?_) | (with_reducible first | refine bI_split (fun h_ => hx_ ?_) (fun h_ => hy_ ?_) | refine bI_split (fun h_ => hy_ ?_) (fun h_ => hx_ ?_)) <;> try rw [h_]) <;> clear hx_ hy_ x_ y_)) | ((with_reducible first | refine hK_ _ _ ?_ | refine hK_ _ _ _ _ (Weak.refl _ _) ?_); clear hK_ K_) | clear hK_ K_)
    exact ⟨_, rfl, hg.less (by omega), hx'⟩
theorem rlist_c (s : List Pg) (hs : s.length = 512) (H : Heap) : ACalls Try.prog 58 [.agg (FL Pg.c s)] H (.s (LV Ar.c (listS s))) H := acalls_of_G ar_pers (rlist_g s hs H)
end Go.Abs
/-
  samaralaw07.Made, samaralaw10.Some.
-/
namespace Go.Abs
set_option linter.unusedVariables false
set_option linter.unusedSimpArgs false
open Go.Proofs
set_option maxHeartbeats 8000000
set_option maxRecDepth 4000

theorem of1_c (a : Ar) (hf : formed a = true) (H : Heap) : ACalls Try.prog 25 [.s (.vs 1 a.c)] H (.agg (FL Pg.c (ofS [a]))) H := by
  have := of_c [a] (by simp) (by simpa using hf) H
  simpa only [LV, FL_one, List.length_cons, List.length_nil, Nat.zero_add] using this
/-- one area's pages laid over others -/
def over (T : List Pg) (q : Nat) (x : Pg) : Pg := if (pgD T q).i then pgD T q else x
theorem pgD_upd {s : List Pg} {lo hi p : Nat} {f : Nat → Pg → Pg} (hp : p < s.length) : pgD (upd s lo hi f) p = if lo ≤ p ∧ p < hi then f p (pgD s p) else pgD s p := by
  have h1 := pgD_get hp
  have h2 := upd_get s lo hi f p
  rw [h1] at h2
  simp only [pgD, List.getD_eq_getElem?_getD, h2]
  simp [pgD]
theorem pgD_pz (p : Nat) : pgD pz p = Pg.zero := by
  unfold pgD pz
  rw [List.getD_eq_getElem?_getD, List.getElem?_replicate]
  split <;> rfl
theorem over_step (s : List Pg) (hs : s.length = 512) (a : Ar) (hf : formed a = true) : upd s 0 512 (over (ofS [a])) = madeStep s a := by
  obtain ⟨g1, g2, g3, g4, g5⟩ := formed_pages hf
  rw [madeStep, if_pos hf, ofStep]
  apply List.ext_getElem?
  intro p
  rw [upd_get, upd_get]
  rcases Nat.lt_or_ge p 512 with h | h
  · congr 1
    funext x
    have : pgD (ofS [a]) p = if plo a ≤ p ∧ p < phi a then pgAt (pattr a p) else Pg.zero := by
      have := pgD_upd (s := pz) (lo := plo a) (hi := phi a) (p := p) (f := fun p _ => pgAt (pattr a p)) (by rw [pz_len]; exact h)
      rw [pgD_pz] at this
      simp only [ofS, List.foldl_cons, List.foldl_nil, ofStep]
      exact this
    rw [if_pos (by omega), over, this]
    by_cases hc : plo a ≤ p ∧ p < phi a
    · rw [if_pos hc]; simp [pgAt, hc]
    · rw [if_neg hc]; simp [Pg.zero, hc]
  · have : s[p]? = none := List.getElem?_eq_none (by omega)
    rw [this]; rfl

theorem made_c (l : List Ar) (hl : l.length < 100000) (H : Heap) : ACalls Try.prog 27 [.s (LV Ar.c l)] H (.s (LV Ar.c (madeS l))) H := by
  refine acalls_pure te_ok mix Try.func27 rfl Try.call27 (by kernel_rfl) (by kernel_rfl) rfl rfl ?_; simp only [Try.results27]
  have hz := bigz_c
  repeat' (first | refine st ?_ | refine pblock_en rfl ?_ | (refine ss ?_; intro K_ hK_) | refine vops_gf rfl ?_ | refine vops_gt rfl ?_ | (refine sk ?_; intro k_ hk_; simp only [go_sem, simprocAttr, hz]; (with_reducible first | refine hk_ _ _ ?_ | refine hk_ _ ?_); clear hk_ k_) | ((first | refine sg ?_ | refine sc ?_); intro x_ y_ hx_ hy_; simp only [go_sem, simprocAttr, hz]; ((first | (with_reducible first | refine hx_ ?_ | refine hy_ ?_) | (with_reducible first | refine bI_split (fun h_ => hx_ ?_) (fun h_ => hy_ ?_) | refine bI_split (fun h_ => hy_ ?_) (fun h_ => hx_ ?_)) <;> try rw [h_]) <;> clear hx_ hy_ x_ y_)) | ((with_reducible first | refine hK_ _ _ ?_ | refine hK_ _ _ _ _ (Weak.refl _ _) ?_); clear hK_ K_) | clear hK_ K_)
  refine vc_range (min l.length 40) (fun i σ' H' => σ' 0 = .s (LV Ar.c l) ∧ σ' 3 = .s (.ptr H.n 0) ∧ σ' 4 = .s (I i) ∧ HExt H H' ∧ H.n < H'.n ∧ H'.m H.n = some { cells := FL Pg.c ((l.take i).foldl madeStep pz) }) ⟨rfl, (by simp only [go_sem, simprocAttr, ]), rfl, hxt, by simp, by simp [push_m]⟩ ?_
  rintro i σ' H' hi ⟨h0, h3, h4, hx', hn1, hm⟩
  have hn' := hx'.1
  have hsl := made_len (l.take i) pz
  rw [pz_len] at hsl
  by_cases hil : i < min l.length 40
  · have hil1 : i < l.length := by omega
    have ha : l[i]? = some l[i] := List.getElem?_eq_getElem hil1
    generalize l[i] = a at ha
    have g1 := FL_at ar_len ha
    have g2 : ((FL Ar.c l).drop (i * 6)).take 6 = a.c := by rw [g1]; rfl
    have hft := fold_take (f := madeStep) ha pz
    generalize (l.take i).foldl madeStep pz = s at hm hft hsl
    have f0 : ((i : Int) < 40) = True := eq_true (by omega)
    have ws := wrap_succ (n := i) (by omega)
    cases hf : formed a with
    | false =>
      have hft' : (l.take (i + 1)).foldl madeStep pz = s := by rw [hft, madeStep, hf]; simp
      repeat' (first | refine st ?_ | refine pblock_en rfl ?_ | (refine ss ?_; intro K_ hK_) | refine vops_gf rfl ?_ | refine vops_gt rfl ?_ | (refine sk ?_; intro k_ hk_; simp only [go_sem, simprocAttr, h0, h3, h4, ilt hil1, f0, g1, hf, ws]; (with_reducible first | refine hk_ _ _ ?_ | refine hk_ _ ?_); clear hk_ k_) | ((first | refine sg ?_ | refine sc ?_); intro x_ y_ hx_ hy_; simp only [go_sem, simprocAttr, h0, h3, h4, ilt hil1, f0, g1, hf, ws]; ((first | (with_reducible first | refine hx_ ?_ | refine hy_ ?_) | (with_reducible first | refine bI_split (fun h_ => hx_ ?_) (fun h_ => hy_ ?_) | refine bI_split (fun h_ => hy_ ?_) (fun h_ => hx_ ?_)) <;> try rw [h_]) <;> clear hx_ hy_ x_ y_)) | (with_reducible first | refine callv_pure (rformed_c _ _) ?_) | ((with_reducible first | refine hK_ _ _ ?_ | refine hK_ _ _ _ _ (Weak.refl _ _) ?_); clear hK_ K_) | clear hK_ K_)
      exact ⟨hil, (by simp only [go_sem, simprocAttr, h0]), (by simp only [go_sem, simprocAttr, h3]), (by simp only [go_sem, simprocAttr, ]), hx', hn1, by rw [hft']; exact hm⟩
    | true =>
      have k1 : i + 1 - i = 1 := by omega
      have k2 : ((i : Int) ≤ ((i + 1 : Nat) : Int)) = True := eq_true (by omega)
      have k3 : (((i + 1 : Nat) : Int) ≤ (l.length : Int)) = True := eq_true (by omega)
      have hT := sp_len (ofS_len [a])
      have hT2 := sp_take (ofS_len [a])
      have hT3 : setAll (FL Pg.c pz) 0 (FL Pg.c (ofS [a])) = FL Pg.c (ofS [a]) := setAll_full (by rw [hT, sp_len pz_len])
      have hT4 := sp_len pz_len
      have hTl := ofS_len [a]
      have hov := over_step s hsl a hf
      have hof := of1_c a hf
      generalize ofS [a] = T at hT hT2 hT3 hTl hov hof
      repeat' (first | refine st ?_ | refine pblock_en rfl ?_ | (refine ss ?_; intro K_ hK_) | refine vops_gf rfl ?_ | refine vops_gt rfl ?_ | (refine sk ?_; intro k_ hk_; simp only [go_sem, simprocAttr, h0, h3, h4, ilt hil1, f0, g1, hf, ws, k1, k2, k3, hz, hT, hT3, hT4, Nat.one_mul]; (with_reducible first | refine hk_ _ _ ?_ | refine hk_ _ ?_); clear hk_ k_) | ((first | refine sg ?_ | refine sc ?_); intro x_ y_ hx_ hy_; simp only [go_sem, simprocAttr, h0, h3, h4, ilt hil1, f0, g1, hf, ws, k1, k2, k3, hz, hT, hT3, hT4, Nat.one_mul]; ((first | (with_reducible first | refine hx_ ?_ | refine hy_ ?_) | (with_reducible first | refine bI_split (fun h_ => hx_ ?_) (fun h_ => hy_ ?_) | refine bI_split (fun h_ => hy_ ?_) (fun h_ => hx_ ?_)) <;> try rw [h_]) <;> clear hx_ hy_ x_ y_)) | (with_reducible first | refine callv_pure (rformed_c _ _) ?_ | refine callv_pure (hof _) ?_) | ((with_reducible first | refine hK_ _ _ ?_ | refine hK_ _ _ _ _ (Weak.refl _ _) ?_); clear hK_ K_) | clear hK_ K_)
      have hn0 : H.n < H'.n := hn1
      refine vc_range 512 (fun j σ2 H2 => σ2 0 = .s (LV Ar.c l) ∧ σ2 3 = .s (.ptr H.n 0) ∧ σ2 4 = .s (I i) ∧ σ2 5 = .s (.ptr H'.n 0) ∧ σ2 6 = .s (I j) ∧ HExt H H2 ∧ H'.n < H2.n ∧ H2.m H'.n = some { cells := FL Pg.c T } ∧ H2.m H.n = some { cells := FL Pg.c (upd s 0 j (over T)) }) ⟨(by simp only [go_sem, simprocAttr, h0]), (by simp only [go_sem, simprocAttr, h3]), (by simp only [go_sem, simprocAttr, h4]), (by simp only [go_sem, simprocAttr, ]), rfl, hxt, by simp, by simp [push_m, set_m], by simp [push_m, set_m, nlt0 hn0, hm, upd_zero]⟩ ?_
      clear h0 h3 h4 hx' hm
      rintro j σ2 H2 hj ⟨h0, h3, h4, h5, h6, hx', hn2, hmT, hm⟩
      have hn'' := hx'.1
      have hnn : H.n < H2.n := by omega
      have hne : (H.n = H'.n) = False := eq_false (by omega)
      have hne' : (H'.n = H.n) = False := eq_false (by omega)
      by_cases hjl : j < 512
      · have hs : s[j]? = some s[j] := List.getElem?_eq_getElem (by omega)
        generalize s[j] = x at hs
        have hcur := upd_at s 0 j (over T) hs
        have hsucc := upd_succ (f := over T) (Nat.zero_le j) hs
        have ht := pgD_get (s := T) (p := j) (by omega)
        have q := FL_at pg_len ht
        have c0 : (FL Pg.c T)[j * 5]? = some (Bo (pgD T j).i) := cell_at q 0 (by simp [pg_len])
        have d0 : ((FL Pg.c T).drop (j * 5)).take 5 = (pgD T j).c := by rw [q]; rfl
        have hset := FL_setAll pg_len hcur (pgD T j)
        have hul : (FL Pg.c (upd s 0 j (over T))).length = 2560 := sp_len (by rw [upd_len]; exact hsl)
        have f1 : ((j : Int) < 512) = True := eq_true (by omega)
        have f3 : ((j : Int) < 512) = True := eq_true (by omega)
        have f4 : (j * 5 + 5 ≤ 2560) = True := eq_true (by omega)
        have wj := wrap_succ (n := j) (by omega)
        cases hti : (pgD T j).i with
        | false =>
          rw [hti] at c0
          have hsame : upd s 0 j (over T) = upd s 0 (j + 1) (over T) := by
            rw [← hsucc, over, hti]
            apply List.ext_getElem?
            intro p
            rw [List.getElem?_set]
            split
            · rename_i e; subst e; rw [if_pos (List.getElem?_eq_some_iff.1 hcur).1]; exact hcur
            · rfl
          repeat' (first | refine st ?_ | refine pblock_en rfl ?_ | (refine ss ?_; intro K_ hK_) | refine vops_gf rfl ?_ | refine vops_gt rfl ?_ | (refine sk ?_; intro k_ hk_; simp only [go_sem, simprocAttr, h0, h3, h4, h5, h6, hmT, hm, nlt hn2, nlt0 hn2, nlt hnn, nlt0 hnn, f1, f3, c0, wj]; (with_reducible first | refine hk_ _ _ ?_ | refine hk_ _ ?_); clear hk_ k_) | ((first | refine sg ?_ | refine sc ?_); intro x_ y_ hx_ hy_; simp only [go_sem, simprocAttr, h0, h3, h4, h5, h6, hmT, hm, nlt hn2, nlt0 hn2, nlt hnn, nlt0 hnn, f1, f3, c0, wj]; ((first | (with_reducible first | refine hx_ ?_ | refine hy_ ?_) | (with_reducible first | refine bI_split (fun h_ => hx_ ?_) (fun h_ => hy_ ?_) | refine bI_split (fun h_ => hy_ ?_) (fun h_ => hx_ ?_)) <;> try rw [h_]) <;> clear hx_ hy_ x_ y_)) | ((with_reducible first | refine hK_ _ _ ?_ | refine hK_ _ _ _ _ (Weak.refl _ _) ?_); clear hK_ K_) | clear hK_ K_)
          exact ⟨hjl, (by simp only [go_sem, simprocAttr, h0]), (by simp only [go_sem, simprocAttr, h3]), (by simp only [go_sem, simprocAttr, h4]), (by simp only [go_sem, simprocAttr, h5]), (by simp only [go_sem, simprocAttr, ]), hx', hn2, hmT, by rw [← hsame]; exact hm⟩
        | true =>
          rw [hti] at c0
          rw [over, hti, if_pos rfl] at hsucc
          rw [hsucc] at hset
          repeat' (first | refine st ?_ | refine pblock_en rfl ?_ | (refine ss ?_; intro K_ hK_) | refine vops_gf rfl ?_ | refine vops_gt rfl ?_ | (refine sk ?_; intro k_ hk_; simp only [go_sem, simprocAttr, h0, h3, h4, h5, h6, hmT, hm, nlt hn2, nlt0 hn2, nlt hnn, nlt0 hnn, f1, f3, f4, c0, d0, hset, hT, hul, wj]; (with_reducible first | refine hk_ _ _ ?_ | refine hk_ _ ?_); clear hk_ k_) | ((first | refine sg ?_ | refine sc ?_); intro x_ y_ hx_ hy_; simp only [go_sem, simprocAttr, h0, h3, h4, h5, h6, hmT, hm, nlt hn2, nlt0 hn2, nlt hnn, nlt0 hnn, f1, f3, f4, c0, d0, hset, hT, hul, wj]; ((first | (with_reducible first | refine hx_ ?_ | refine hy_ ?_) | (with_reducible first | refine bI_split (fun h_ => hx_ ?_) (fun h_ => hy_ ?_) | refine bI_split (fun h_ => hy_ ?_) (fun h_ => hx_ ?_)) <;> try rw [h_]) <;> clear hx_ hy_ x_ y_)) | ((with_reducible first | refine hK_ _ _ ?_ | refine hK_ _ _ _ _ (Weak.refl _ _) ?_); clear hK_ K_) | clear hK_ K_)
          exact ⟨hjl, (by simp only [go_sem, simprocAttr, h0]), (by simp only [go_sem, simprocAttr, h3]), (by simp only [go_sem, simprocAttr, h4]), (by simp only [go_sem, simprocAttr, h5]), (by simp only [go_sem, simprocAttr, ]), hxt, by simp; omega, by simp [set_m, hmT, hne'], by simp [set_m]⟩
      · have ej : j = 512 := by omega
        subst ej
        have f1 : (((512 : Nat) : Int) < 512) = False := eq_false (by omega)
        repeat' (first | refine st ?_ | refine pblock_en rfl ?_ | (refine ss ?_; intro K_ hK_) | refine vops_gf rfl ?_ | refine vops_gt rfl ?_ | (refine sk ?_; intro k_ hk_; simp only [go_sem, simprocAttr, h0, h3, h4, h5, h6, f1, ws]; (with_reducible first | refine hk_ _ _ ?_ | refine hk_ _ ?_); clear hk_ k_) | ((first | refine sg ?_ | refine sc ?_); intro x_ y_ hx_ hy_; simp only [go_sem, simprocAttr, h0, h3, h4, h5, h6, f1, ws]; ((first | (with_reducible first | refine hx_ ?_ | refine hy_ ?_) | (with_reducible first | refine bI_split (fun h_ => hx_ ?_) (fun h_ => hy_ ?_) | refine bI_split (fun h_ => hy_ ?_) (fun h_ => hx_ ?_)) <;> try rw [h_]) <;> clear hx_ hy_ x_ y_)) | ((with_reducible first | refine hK_ _ _ ?_ | refine hK_ _ _ _ _ (Weak.refl _ _) ?_); clear hK_ K_) | clear hK_ K_)
        exact ⟨hil, (by simp only [go_sem, simprocAttr, h0]), (by simp only [go_sem, simprocAttr, h3]), (by simp only [go_sem, simprocAttr, ]), hx', by omega, by rw [hft, ← hov]; exact hm⟩
  · have ei : i = min l.length 40 := by omega
    have et : (l.take i).foldl madeStep pz = madeP l := by
      rw [madeP]; congr 1
      rw [ei]
      rcases Nat.le_total l.length 40 with h | h
      · rw [Nat.min_eq_left h, List.take_of_length_le (Nat.le_refl _), List.take_of_length_le h]
      · rw [Nat.min_eq_right h]
    rw [et] at hm
    have t1 := sp_take (madeP_len l)
    have t2 := sp_len (madeP_len l)
    by_cases hl40 : i < l.length
    · have f0 : ((i : Int) < 40) = False := eq_false (by omega)
      repeat' (first | refine st ?_ | refine pblock_en rfl ?_ | (refine ss ?_; intro K_ hK_) | refine vops_gf rfl ?_ | refine vops_gt rfl ?_ | (refine sk ?_; intro k_ hk_; simp only [go_sem, simprocAttr, h0, h3, h4, ilt hl40, f0, hm, nlt0 hn1, nlt hn1, t1, t2]; (with_reducible first | refine hk_ _ _ ?_ | refine hk_ _ ?_); clear hk_ k_) | ((first | refine sg ?_ | refine sc ?_); intro x_ y_ hx_ hy_; simp only [go_sem, simprocAttr, h0, h3, h4, ilt hl40, f0, hm, nlt0 hn1, nlt hn1, t1, t2]; ((first | (with_reducible first | refine hx_ ?_ | refine hy_ ?_) | (with_reducible first | refine bI_split (fun h_ => hx_ ?_) (fun h_ => hy_ ?_) | refine bI_split (fun h_ => hy_ ?_) (fun h_ => hx_ ?_)) <;> try rw [h_]) <;> clear hx_ hy_ x_ y_)) | (with_reducible first | refine callv_pure (rlist_c (madeP l) (madeP_len l) _) ?_) | ((with_reducible first | refine hK_ _ _ ?_ | refine hK_ _ _ _ _ (Weak.refl _ _) ?_); clear hK_ K_) | clear hK_ K_)
      exact ⟨rfl, hx'⟩
    · repeat' (first | refine st ?_ | refine pblock_en rfl ?_ | (refine ss ?_; intro K_ hK_) | refine vops_gf rfl ?_ | refine vops_gt rfl ?_ | (refine sk ?_; intro k_ hk_; simp only [go_sem, simprocAttr, h0, h3, h4, ige hl40, hm, nlt0 hn1, nlt hn1, t1, t2]; (with_reducible first | refine hk_ _ _ ?_ | refine hk_ _ ?_); clear hk_ k_) | ((first | refine sg ?_ | refine sc ?_); intro x_ y_ hx_ hy_; simp only [go_sem, simprocAttr, h0, h3, h4, ige hl40, hm, nlt0 hn1, nlt hn1, t1, t2]; ((first | (with_reducible first | refine hx_ ?_ | refine hy_ ?_) | (with_reducible first | refine bI_split (fun h_ => hx_ ?_) (fun h_ => hy_ ?_) | refine bI_split (fun h_ => hy_ ?_) (fun h_ => hx_ ?_)) <;> try rw [h_]) <;> clear hx_ hy_ x_ y_)) | (with_reducible first | refine callv_pure (rlist_c (madeP l) (madeP_len l) _) ?_) | ((with_reducible first | refine hK_ _ _ ?_ | refine hK_ _ _ _ _ (Weak.refl _ _) ?_); clear hK_ K_) | clear hK_ K_)
      exact ⟨rfl, hx'⟩
theorem listS_len (s : List Pg) : (listS s).length ≤ 496 := by
  have : ∀ (n k : Nat) (out : List Ar), ((List.range' k n).foldl (listStep s) out).length ≤ out.length + n := by
    intro n
    induction n with
    | zero => intro k out; simp
    | succ n ih => intro k out; have := ih (k + 1) (listStep s out k); have := listStep_len s out k; simp [List.range'_succ]; omega
  simpa [listS] using this 496 16 []
theorem made_length (l : List Ar) : (madeS l).length ≤ 496 := listS_len _
theorem some_c (l : List Ar) (hl : l.length < 100000) (H : Heap) : ACalls Try.prog 13 [.s (LV Ar.c l)] H (.s (LV Ar.c (someS l))) H := by
  refine acalls_pure te_ok mix Try.func13 rfl Try.call13 (by kernel_rfl) (by kernel_rfl) rfl rfl ?_; simp only [Try.results13]
  have hm := made_length l
  have e1 : imin ((madeS l).length : Int) 24 = (((madeS l).take 24).length : Int) := by
    unfold imin; split <;> simp <;> omega
  have e2 : (((madeS l).take 24).length : Int) ≤ ((madeS l).length : Int) := by simp; omega
  have e3 := FL_take (f := Ar.c) ar_len (madeS l) ((madeS l).take 24).length
  have e4 : (madeS l).take ((madeS l).take 24).length = (madeS l).take 24 := by
    rw [List.length_take]
    rcases Nat.le_total 24 (madeS l).length with h | h
    · rw [Nat.min_eq_left h]
    · rw [Nat.min_eq_right h, List.take_of_length_le (Nat.le_refl _), List.take_of_length_le h]
  rw [e4] at e3
  unfold someS
  generalize (madeS l).take 24 = t at e1 e2 e3
  repeat' (first | refine st ?_ | refine pblock_en rfl ?_ | (refine ss ?_; intro K_ hK_) | refine vops_gf rfl ?_ | refine vops_gt rfl ?_ | (refine sk ?_; intro k_ hk_; simp only [go_sem, simprocAttr, e1, e2, e3, Nat.zero_mul, Nat.sub_zero]; (with_reducible first | refine hk_ _ _ ?_ | refine hk_ _ ?_); clear hk_ k_) | ((first | refine sg ?_ | refine sc ?_); intro x_ y_ hx_ hy_; simp only [go_sem, simprocAttr, e1, e2, e3, Nat.zero_mul, Nat.sub_zero]; ((first | (with_reducible first | refine hx_ ?_ | refine hy_ ?_) | (with_reducible first | refine bI_split (fun h_ => hx_ ?_) (fun h_ => hy_ ?_) | refine bI_split (fun h_ => hy_ ?_) (fun h_ => hx_ ?_)) <;> try rw [h_]) <;> clear hx_ hy_ x_ y_)) | (with_reducible first | refine callv_pure (made_c l hl _) ?_) | ((with_reducible first | refine hK_ _ _ ?_ | refine hK_ _ _ _ _ (Weak.refl _ _) ?_); clear hK_ K_) | clear hK_ K_)
  exact ⟨rfl, HExt.refl _⟩
end Go.Abs
/-
  Right lists, and their pages: two right lists with the same pages are the same.
-/
namespace Go.Abs
set_option linter.unusedVariables false
set_option linter.unusedSimpArgs false

def srt : List Ar → Prop
  | [] => True
  | a :: l => formed a = true ∧ (∀ b ∈ l, phi a ≤ plo b) ∧ srt l
def nog (l : List Ar) : Prop := ∀ x ∈ l, ∀ y ∈ l, goes x y = false
def inP (p : Nat) (a : Ar) : Bool := decide (plo a ≤ p ∧ p < phi a)
def pgs (l : List Ar) (p : Nat) : Option At := (l.find? (inP p)).map fun a => pattr a p

theorem goes_iff {a b : Ar} (ha : formed a = true) (hb : formed b = true) : goes a b = true ↔ phi a = plo b ∧ a.p = b.p ∧ a.sh = b.sh ∧ a.b = b.b ∧ (a.b ≠ 0 → b.o = a.o + (a.e - a.s)) := by
  obtain ⟨a1, a2, a3, a4, a5⟩ := formed_pages ha
  obtain ⟨b1, b2, b3, b4, b5⟩ := formed_pages hb
  obtain ⟨f1, f2, f3, f4, f5, f6, f7, f8, f9, f10, f11, f12, f13⟩ := (formed_iff a).1 ha
  obtain ⟨g1, g2, g3, g4, g5, g6, g7, g8, g9, g10, g11, g12, g13⟩ := (formed_iff b).1 hb
  have hw : IntKind.i64.wrap (IntKind.i64.wrap (a.o + a.e) - a.s) = a.o + (a.e - a.s) := by
    rw [wrap_id (n := a.o + a.e) (by omega) (by omega), wrap_id (by omega) (by omega)]; omega
  unfold goes aoff
  simp only [ha, hb, Bool.true_and, Bool.and_eq_true, beq_iff_eq, wr, hw]
  constructor
  · rintro ⟨⟨⟨⟨h1, h2⟩, h3⟩, h4⟩, h5⟩
    refine ⟨by omega, h2, h3, h4, fun h0 => ?_⟩
    rw [if_neg h0] at h5; exact h5
  · rintro ⟨h1, h2, h3, h4, h5⟩
    refine ⟨⟨⟨⟨by omega, h2⟩, h3⟩, h4⟩, ?_⟩
    by_cases h0 : a.b = 0
    · rw [if_pos h0]; exact g10 (by omega)
    · rw [if_neg h0]; exact h5 h0

theorem srt_formed : ∀ {l : List Ar}, srt l → ∀ a ∈ l, formed a = true
  | b :: l, h, a, ha => by
    rcases List.mem_cons.1 ha with rfl | ha
    · exact h.1
    · exact srt_formed h.2.2 a ha
theorem srt_tail {a : Ar} {l : List Ar} (h : srt (a :: l)) : srt l := h.2.2
theorem nog_tail {a : Ar} {l : List Ar} (h : nog (a :: l)) : nog l := fun x hx y hy => h x (List.mem_cons_of_mem _ hx) y (List.mem_cons_of_mem _ hy)

/-- right, in plain words -/
theorem rightFrom_iff : ∀ (l : List Ar) (p : Option Ar), (∀ a, p = some a → formed a = true) → (rightFrom p l = true ↔ srt l ∧ nog l ∧ ∀ a, p = some a → ∀ b, l.head? = some b → phi a ≤ plo b ∧ goes a b = false)
  | [], p, _ => by
    simp only [rightFrom, srt, nog, List.head?_nil, true_iff]
    exact ⟨trivial, fun x hx => by simp at hx, fun a _ b h => by cases h⟩
  | b :: l, p, hp => by
    have key : rightFrom p (b :: l) = true ↔ formed b = true ∧ (∀ a, p = some a → ¬ a.e > b.s ∧ goes a b = false) ∧ rightFrom (some b) l = true := by
      cases p with
      | none => simp [rightFrom]
      | some a => simp [rightFrom, and_assoc]
    rw [key]
    constructor
    · rintro ⟨h1, h2, h3⟩
      obtain ⟨k1, k2, k3⟩ := (rightFrom_iff l (some b) (fun a e => by injection e with e; subst e; exact h1)).1 h3
      have hb := formed_pages h1
      have hall : ∀ c ∈ l, phi b ≤ plo c := by
        cases l with
        | nil => intro c hc; simp at hc
        | cons d l =>
          intro c hc
          have hd := k3 b rfl d rfl
          have hfd := formed_pages k1.1
          rcases List.mem_cons.1 hc with rfl | hc
          · exact hd.1
          · have := k1.2.1 c hc; omega
      refine ⟨⟨h1, hall, k1⟩, ?_, fun a ha c hc => ?_⟩
      · intro x hx y hy
        rcases List.mem_cons.1 hx with ex | hx <;> rcases List.mem_cons.1 hy with ey | hy
        · rw [ex, ey]
          cases hg : goes b b with
          | false => rfl
          | true => have := ((goes_iff h1 h1).1 hg).1; omega
        · rw [ex]
          cases hg : goes b y with
          | false => rfl
          | true =>
            exfalso
            have hfy := srt_formed k1 y hy
            have he := ((goes_iff h1 hfy).1 hg).1
            cases l with
            | nil => simp at hy
            | cons d l =>
              have hd := k3 b rfl d rfl
              rcases List.mem_cons.1 hy with ey | hy
              · rw [ey, hd.2] at hg; cases hg
              · have h5 := k1.2.1 y hy
                have h6 := formed_pages k1.1
                omega
        · rw [ey]
          cases hg : goes x b with
          | false => rfl
          | true =>
            exfalso
            have hfx := srt_formed k1 x hx
            have he := ((goes_iff hfx h1).1 hg).1
            have := hall x hx
            have h6 := formed_pages hfx
            omega
        · exact k2 x hx y hy
      · injection hc with hc; subst hc
        obtain ⟨g1, g2⟩ := h2 a ha
        have hfa := formed_pages (hp a ha)
        exact ⟨by omega, g2⟩
    · rintro ⟨h1, h2, h3⟩
      refine ⟨h1.1, fun a ha => ?_, (rightFrom_iff l (some b) (fun a e => by injection e with e; subst e; exact h1.1)).2 ⟨h1.2.2, nog_tail h2, fun a ha c hc => ?_⟩⟩
      · obtain ⟨g1, g2⟩ := h3 a ha b rfl
        have hfa := formed_pages (hp a ha)
        have hfb := formed_pages h1.1
        exact ⟨by omega, g2⟩
      · injection ha with ha; subst ha
        have hc' : c ∈ l := List.mem_of_mem_head? hc
        exact ⟨h1.2.1 c hc', h2 b (List.mem_cons_self ..) c (List.mem_cons_of_mem _ hc')⟩
theorem right_iff (l : List Ar) : right l = true ↔ srt l ∧ nog l := by
  rw [right, rightFrom_iff l none (fun a h => by cases h)]
  exact ⟨fun h => ⟨h.1, h.2.1⟩, fun h => ⟨h.1, h.2, fun a h => by cases h⟩⟩

theorem pgs_nil (p : Nat) : pgs [] p = none := rfl
theorem pgs_cons (a : Ar) (l : List Ar) (p : Nat) : pgs (a :: l) p = if plo a ≤ p ∧ p < phi a then some (pattr a p) else pgs l p := by
  unfold pgs
  by_cases h : plo a ≤ p ∧ p < phi a
  · rw [if_pos h, List.find?_cons_of_pos (by simpa [inP] using h)]; rfl
  · rw [if_neg h, List.find?_cons_of_neg (by simpa [inP] using h)]
theorem pgs_none {l : List Ar} {p : Nat} (h : ∀ a ∈ l, ¬ (plo a ≤ p ∧ p < phi a)) : pgs l p = none := by
  unfold pgs
  rw [List.find?_eq_none.2 (fun a ha => by simpa [inP] using h a ha)]; rfl
theorem pgs_some {l : List Ar} {p : Nat} {t : At} (h : pgs l p = some t) : ∃ a ∈ l, plo a ≤ p ∧ p < phi a ∧ pattr a p = t := by
  unfold pgs at h
  cases hf : l.find? (inP p) with
  | none => rw [hf] at h; cases h
  | some a =>
    rw [hf] at h
    injection h with h
    have h1 := List.find?_some hf
    exact ⟨a, List.mem_of_find?_eq_some hf, (by simpa [inP] using h1 : plo a ≤ p ∧ p < phi a).1, (by simpa [inP] using h1 : plo a ≤ p ∧ p < phi a).2, h⟩
theorem pgs_mem : ∀ {l : List Ar}, srt l → ∀ {a : Ar}, a ∈ l → ∀ {p : Nat}, plo a ≤ p → p < phi a → pgs l p = some (pattr a p)
  | b :: l, hs, a, ha, p, h1, h2 => by
    rw [pgs_cons]
    rcases List.mem_cons.1 ha with rfl | ha
    · rw [if_pos ⟨h1, h2⟩]
    · have := hs.2.1 a ha
      rw [if_neg (by omega)]
      exact pgs_mem hs.2.2 ha h1 h2

theorem pattr_eq {a b : Ar} {p : Nat} (h : pattr a p = pattr b p) : a.p = b.p ∧ a.sh = b.sh ∧ a.b = b.b ∧ (a.b > 0 → a.o + (4096 * (p : Int) - a.s) = b.o + (4096 * (p : Int) - b.s)) := by
  unfold pattr at h
  simp only [At.mk.injEq] at h
  obtain ⟨h1, h2, h3, h4⟩ := h
  refine ⟨h1, h2, h3, fun h5 => ?_⟩
  rw [if_pos h5, if_pos (by omega)] at h4
  exact h4

theorem head_le {a b : Ar} {l m : List Ar} (ha : srt (a :: l)) (na : nog (a :: l)) (hb : srt (b :: m)) (hlo : plo a = plo b) (hp : ∀ p, pgs (a :: l) p = pgs (b :: m) p) : phi b ≤ phi a := by
  rcases Nat.lt_or_ge (phi a) (phi b) with hlt | hge
  · exfalso
    have fa := formed_pages ha.1
    have fb := formed_pages hb.1
    have h1 : pgs (b :: m) (phi a) = some (pattr b (phi a)) := pgs_mem hb (List.mem_cons_self ..) (by omega) hlt
    rw [← hp, pgs_cons, if_neg (by omega)] at h1
    obtain ⟨c, hc, c1, c2, c3⟩ := pgs_some h1
    have hac := ha.2.1 c hc
    have fc := srt_formed ha.2.2 c hc
    have fc' := formed_pages fc
    have h2 : pgs (b :: m) (phi a - 1) = some (pattr b (phi a - 1)) := pgs_mem hb (List.mem_cons_self ..) (by omega) (by omega)
    rw [← hp, pgs_cons, if_pos (by omega)] at h2
    injection h2 with h2
    obtain ⟨d1, d2, d3, d4⟩ := pattr_eq c3
    obtain ⟨e1, e2, e3, e4⟩ := pattr_eq h2
    have hg : goes a c = true := by
      refine (goes_iff ha.1 fc).2 ⟨by omega, by omega, by rw [e2, d2], by omega, fun h0 => ?_⟩
      have ba := ((formed_iff a).1 ha.1).2.2.2.2.2.2.2.1
      have := e4 (by omega)
      have := d4 (by omega)
      omega
    have := na a (List.mem_cons_self ..) c (List.mem_cons_of_mem _ hc)
    rw [hg] at this; cases this
  · exact hge

/-- **Right lists with the same pages are the same.** -/
theorem ext_pgs : ∀ {l m : List Ar}, srt l → nog l → srt m → nog m → (∀ p, pgs l p = pgs m p) → l = m
  | [], [], _, _, _, _, _ => rfl
  | [], b :: m, _, _, hm, _, hp => by
    have fb := formed_pages hm.1
    have := pgs_mem hm (List.mem_cons_self ..) (Nat.le_refl (plo b)) fb.2.1
    rw [← hp] at this; cases this
  | a :: l, [], hl, _, _, _, hp => by
    have fa := formed_pages hl.1
    have := pgs_mem hl (List.mem_cons_self ..) (Nat.le_refl (plo a)) fa.2.1
    rw [hp] at this; cases this
  | a :: l, b :: m, hl, nl, hm, nm, hp => by
    have fa := formed_pages hl.1
    have fb := formed_pages hm.1
    have low : ∀ {a b : Ar} {l m : List Ar}, srt (a :: l) → srt (b :: m) → (∀ p, pgs (a :: l) p = pgs (b :: m) p) → plo b ≤ plo a := by
      intro a b l m hl hm hp
      have fa := formed_pages hl.1
      have fb := formed_pages hm.1
      have := pgs_mem hl (List.mem_cons_self ..) (Nat.le_refl (plo a)) fa.2.1
      rw [hp] at this
      obtain ⟨c, hc, c1, c2, _⟩ := pgs_some this
      rcases List.mem_cons.1 hc with rfl | hc
      · exact c1
      · have := hm.2.1 c hc; omega
    have hlo : plo a = plo b := Nat.le_antisymm (low hm hl fun p => (hp p).symm) (low hl hm hp)
    have hhi : phi a = phi b := Nat.le_antisymm (head_le hm nm hl hlo.symm fun p => (hp p).symm) (head_le hl nl hm hlo hp)
    have hab : a = b := by
      have h1 := pgs_mem hl (List.mem_cons_self ..) (Nat.le_refl (plo a)) fa.2.1
      rw [hp, pgs_mem hm (List.mem_cons_self ..) (by omega) (by omega)] at h1
      injection h1 with h1
      obtain ⟨e1, e2, e3, e4⟩ := pattr_eq h1
      have ga := (formed_iff a).1 hl.1
      have gb := (formed_iff b).1 hm.1
      have ho : a.o = b.o := by
        by_cases h0 : a.b = 0
        · rw [ga.2.2.2.2.2.2.2.2.2.1 h0, gb.2.2.2.2.2.2.2.2.2.1 (by omega)]
        · have := e4 (by omega); omega
      cases a; cases b
      simp only [Ar.mk.injEq]
      simp only at fa fb e1 e2 e3 ho hlo hhi
      refine ⟨by omega, by omega, e1.symm, e2.symm, e3.symm, ho⟩
    subst hab
    congr 1
    refine ext_pgs hl.2.2 (nog_tail nl) hm.2.2 (nog_tail nm) fun p => ?_
    by_cases h : plo a ≤ p ∧ p < phi a
    · rw [pgs_none fun c hc => by have := hl.2.1 c hc; omega, pgs_none fun c hc => by have := hm.2.1 c hc; omega]
    · have := hp p
      rw [pgs_cons, pgs_cons, if_neg h, if_neg h] at this
      exact this
end Go.Abs
/-
  Pages of what is cut, put, set and joined.
-/
namespace Go.Abs
set_option linter.unusedVariables false
set_option linter.unusedSimpArgs false

theorem fmap_congr {f g : Ar → Option Ar} : ∀ {l : List Ar}, (∀ a ∈ l, f a = g a) → l.filterMap f = l.filterMap g
  | [], _ => rfl
  | a :: l, h => by rw [List.filterMap_cons, List.filterMap_cons, h a (by simp), fmap_congr fun b hb => h b (by simp [hb])]
/-! ### Numbers -/
theorem tmod_nn {n : Int} (h : 0 ≤ n) : n.tmod 4096 = n % 4096 := Int.tmod_eq_emod_of_nonneg h
theorem afloor_al {n : Int} (h0 : 0 ≤ n) (h1 : n ≤ 1099511627776) (h : n % 4096 = 0) : afloor n = n := by
  unfold afloor wr
  rw [tmod_nn h0, wrap_id (n := n % 4096 + 4096) (by omega) (by omega), tmod_nn (by omega), wrap_id (by omega) (by omega)]
  omega
theorem afloor_neg {n : Int} (h0 : 0 ≤ n) (h1 : n ≤ 1099511627776) (h : n % 4096 = 0) : afloor (wr (0 - n)) = 0 - n := by
  unfold afloor wr
  have hd : (4096 : Int) ∣ (0 - n) := by omega
  rw [wrap_id (n := 0 - n) (by omega) (by omega), Int.dvd_iff_tmod_eq_zero.1 hd, wrap_id (n := 0 + 4096) (by omega) (by omega), tmod_nn (by omega), wrap_id (by omega) (by omega)]
  omega
theorem aceil_al {n : Int} (h0 : 0 ≤ n) (h1 : n ≤ 2097152) (h : n % 4096 = 0) : aceil n = n := by
  unfold aceil
  rw [if_neg (by omega), afloor_neg h0 (by omega) h, wr, wrap_id (by omega) (by omega)]
  omega
theorem toOf_al {n : Int} (h0 : 0 ≤ n) (h1 : n ≤ 2097152) (h : n % 4096 = 0) : toOf n = n := by
  unfold toOf
  split
  · rw [afloor_neg h0 (by omega) h, wr, wrap_id (by omega) (by omega)]; omega
  · rfl

/-! ### A part of an area, from a page to a page -/
def cutA (a : Ar) (x y : Nat) : Ar := { a with s := 4096 * (x : Int), e := 4096 * (y : Int), o := if a.b = 0 then 0 else a.o + (4096 * (x : Int) - a.s) }
theorem cutA_plo (a : Ar) (x y : Nat) : plo (cutA a x y) = x := by unfold plo cutA; simp only; omega
theorem cutA_phi (a : Ar) (x y : Nat) : phi (cutA a x y) = y := by unfold phi cutA; simp only; omega
theorem cutA_formed {a : Ar} {x y : Nat} (ha : formed a = true) (h1 : plo a ≤ x) (h2 : x < y) (h3 : y ≤ phi a) : formed (cutA a x y) = true := by
  obtain ⟨a1, a2, a3, a4, a5⟩ := formed_pages ha
  obtain ⟨f1, f2, f3, f4, f5, f6, f7, f8, f9, f10, f11, f12, f13⟩ := (formed_iff a).1 ha
  refine (formed_iff _).2 ?_
  unfold cutA
  simp only
  by_cases h0 : a.b = 0
  · rw [if_pos h0]; exact ⟨by omega, by omega, by omega, by omega, by omega, f6, f7, f8, f9, fun _ => rfl, rfl, Int.le_refl _, by omega⟩
  · rw [if_neg h0]; exact ⟨by omega, by omega, by omega, by omega, by omega, f6, f7, f8, f9, fun h => absurd h h0, by omega, by omega, by omega⟩
theorem cutA_pattr (a : Ar) (x y p : Nat) : pattr (cutA a x y) p = pattr a p := by
  unfold pattr cutA
  simp only [At.mk.injEq, true_and]
  by_cases h0 : a.b > 0
  · rw [if_pos h0, if_pos h0, if_neg (by omega)]; omega
  · rw [if_neg h0, if_neg h0]
theorem cutA_self {a : Ar} (ha : formed a = true) : cutA a (plo a) (phi a) = a := by
  obtain ⟨a1, a2, a3, a4, a5⟩ := formed_pages ha
  have f10 := ((formed_iff a).1 ha).2.2.2.2.2.2.2.2.2.1
  unfold cutA
  cases a
  simp only at *
  simp only [Ar.mk.injEq, true_and]
  refine ⟨by omega, by omega, ?_⟩
  split
  · rename_i h; exact (f10 h).symm
  · omega

theorem aoff_eq {a : Ar} (ha : formed a = true) {n : Int} (h0 : a.s ≤ n) (h1 : n ≤ a.e) : aoff a n = if a.b = 0 then 0 else a.o + (n - a.s) := by
  obtain ⟨f1, f2, f3, f4, f5, f6, f7, f8, f9, f10, f11, f12, f13⟩ := (formed_iff a).1 ha
  unfold aoff wr
  split
  · rfl
  · rw [wrap_id (n := a.o + n) (by omega) (by omega), wrap_id (by omega) (by omega)]; omega
def clip (i j : Nat) (a : Ar) : Option Ar := if max (plo a) i < min (phi a) j then some (cutA a (max (plo a) i) (min (phi a) j)) else none
theorem apart_clip {a : Ar} (ha : formed a = true) {i j : Nat} (hj : j ≤ 512) : apart a (4096 * (i : Int)) (4096 * (j : Int)) = clip i j a := by
  obtain ⟨a1, a2, a3, a4, a5⟩ := formed_pages ha
  unfold apart clip
  by_cases hc : 4096 * (j : Int) ≤ a.s ∨ 4096 * (i : Int) ≥ a.e ∨ 4096 * (i : Int) ≥ 4096 * (j : Int)
  · have e1 : (!formed a || decide (4096 * (j : Int) ≤ a.s) || decide (4096 * (i : Int) ≥ a.e) || decide (4096 * (i : Int) ≥ 4096 * (j : Int))) = true := by
      simp only [Bool.or_eq_true, decide_eq_true_eq]; omega
    rw [if_pos e1, if_neg (by omega)]
  · have e1 : ¬ (!formed a || decide (4096 * (j : Int) ≤ a.s) || decide (4096 * (i : Int) ≥ a.e) || decide (4096 * (i : Int) ≥ 4096 * (j : Int))) = true := by
      simp only [ha, Bool.not_true, Bool.false_or, Bool.or_eq_true, decide_eq_true_eq]; omega
    have e2 : imax (4096 * (i : Int)) 0 = 4096 * (i : Int) := by unfold imax; rw [if_neg (by omega)]
    have e3 : imax a.s (afloor (imax (4096 * (i : Int)) 0)) = 4096 * ((max (plo a) i : Nat) : Int) := by
      rw [e2, afloor_al (by omega) (by omega) (by omega)]
      unfold imax; split <;> omega
    have e4 : imin a.e (aceil (4096 * (j : Int))) = 4096 * ((min (phi a) j : Nat) : Int) := by
      rw [aceil_al (by omega) (by omega) (by omega)]
      unfold imin; split <;> omega
    rw [if_neg e1, e3, e4, if_neg (by omega), if_pos (by omega), aoff_eq ha (by omega) (by omega)]
    rfl
theorem within_clip {l : List Ar} (hl : ∀ a ∈ l, formed a = true) {i j : Nat} (hj : j ≤ 512) : withinS l (4096 * (i : Int)) (4096 * (j : Int)) = l.filterMap (clip i j) := by
  unfold withinS
  exact fmap_congr fun a ha => apart_clip (hl a ha) hj
theorem ahead_clip {l : List Ar} (hl : ∀ a ∈ l, formed a = true) {i j : Nat} (hi : 16 ≤ i) (hi2 : i ≤ 512) (hij : i < j) : aheadS l (4096 * (i : Int)) (4096 * (j : Int)) = l.filterMap (clip 16 i) := by
  unfold aheadS
  rw [if_pos (by omega)]
  refine fmap_congr fun a ha => ?_
  obtain ⟨a1, a2, a3, a4, a5⟩ := formed_pages (hl a ha)
  unfold aheadOf
  rw [afloor_al (by omega) (by omega) (by omega)]
  have e : imax (4096 * (i : Int)) 65536 = 4096 * (i : Int) := by unfold imax; split <;> omega
  have e2 : (65536 : Int) = 4096 * ((16 : Nat) : Int) := rfl
  rw [e]
  split
  · rw [e2]; exact apart_clip (hl a ha) hi2
  · rw [clip, if_neg (by omega)]
theorem behind_clip {l : List Ar} (hl : ∀ a ∈ l, formed a = true) {i j : Nat} (hj : 16 ≤ j) (hj2 : j ≤ 512) (hij : i < j) : behindS l (4096 * (i : Int)) (4096 * (j : Int)) = l.filterMap (clip j 512) := by
  unfold behindS
  rw [if_pos (by omega)]
  refine fmap_congr fun a ha => ?_
  obtain ⟨a1, a2, a3, a4, a5⟩ := formed_pages (hl a ha)
  unfold behindOf
  rw [toOf_al (by omega) (by omega) (by omega)]
  have e : imax (4096 * (j : Int)) 65536 = 4096 * (j : Int) := by unfold imax; split <;> omega
  have e2 : (2097152 : Int) = 4096 * ((512 : Nat) : Int) := rfl
  rw [e]
  split
  · rw [e2]; exact apart_clip (hl a ha) (Nat.le_refl _)
  · rw [clip, if_neg (by omega)]

/-! ### Clipped lists -/
theorem clip_some {a b : Ar} {i j : Nat} (h : clip i j a = some b) : max (plo a) i < min (phi a) j ∧ b = cutA a (max (plo a) i) (min (phi a) j) := by
  unfold clip at h
  split at h
  · rename_i hc; injection h with h; exact ⟨hc, h.symm⟩
  · cases h
theorem clip_mem {l : List Ar} {i j : Nat} {b : Ar} (h : b ∈ l.filterMap (clip i j)) : ∃ a ∈ l, max (plo a) i < min (phi a) j ∧ b = cutA a (max (plo a) i) (min (phi a) j) := by
  obtain ⟨a, ha, hc⟩ := List.mem_filterMap.1 h
  exact ⟨a, ha, clip_some hc⟩
theorem clip_bd {l : List Ar} {i j : Nat} {b : Ar} (h : b ∈ l.filterMap (clip i j)) : i ≤ plo b ∧ phi b ≤ j := by
  obtain ⟨a, ha, hc, rfl⟩ := clip_mem h
  rw [cutA_plo, cutA_phi]; omega
theorem clip_srt : ∀ {l : List Ar} {i j : Nat}, srt l → srt (l.filterMap (clip i j))
  | [], _, _, _ => trivial
  | a :: l, i, j, h => by
    rw [List.filterMap_cons]
    cases hc : clip i j a with
    | none => exact clip_srt h.2.2
    | some b =>
      obtain ⟨h1, rfl⟩ := clip_some hc
      refine ⟨cutA_formed h.1 (by omega) h1 (by omega), fun c hcm => ?_, clip_srt h.2.2⟩
      obtain ⟨d, hd, h2, rfl⟩ := clip_mem hcm
      have := h.2.1 d hd
      rw [cutA_phi, cutA_plo]; omega
theorem clip_pgs : ∀ {l : List Ar} {i j : Nat}, srt l → ∀ p, pgs (l.filterMap (clip i j)) p = if i ≤ p ∧ p < j then pgs l p else none
  | [], _, _, _, p => by simp [pgs_nil]
  | a :: l, i, j, h, p => by
    rw [List.filterMap_cons, pgs_cons]
    have ih := clip_pgs (i := i) (j := j) h.2.2 p
    cases hc : clip i j a with
    | none =>
      simp only
      rw [ih]
      by_cases hp : i ≤ p ∧ p < j
      · rw [if_pos hp, if_pos hp]
        unfold clip at hc
        split at hc
        · cases hc
        · rw [if_neg (by omega)]
      · rw [if_neg hp, if_neg hp]
    | some b =>
      obtain ⟨h1, rfl⟩ := clip_some hc
      simp only
      rw [pgs_cons, ih, cutA_plo, cutA_phi, cutA_pattr]
      by_cases hp : i ≤ p ∧ p < j
      · rw [if_pos hp]
        by_cases ha : plo a ≤ p ∧ p < phi a
        · rw [if_pos (by omega), if_pos ha, if_pos hp]
        · rw [if_neg (by omega), if_neg ha, if_pos hp]
      · rw [if_neg (by omega), if_neg hp, if_neg hp]
theorem clip_nog {l : List Ar} {i j : Nat} (h : srt l) (hn : nog l) : nog (l.filterMap (clip i j)) := by
  intro x hx y hy
  obtain ⟨a, ha, h1, rfl⟩ := clip_mem hx
  obtain ⟨b, hb, h2, rfl⟩ := clip_mem hy
  have fa := srt_formed h a ha
  have fb := srt_formed h b hb
  have pa := formed_pages fa
  have pb := formed_pages fb
  cases hg : goes (cutA a (max (plo a) i) (min (phi a) j)) (cutA b (max (plo b) i) (min (phi b) j)) with
  | false => rfl
  | true =>
    exfalso
    obtain ⟨g1, g2, g3, g4, g5⟩ := (goes_iff (cutA_formed fa (by omega) h1 (by omega)) (cutA_formed fb (by omega) h2 (by omega))).1 hg
    rw [cutA_phi, cutA_plo] at g1
    have hg2 : goes a b = true := by
      refine (goes_iff fa fb).2 ⟨by omega, g2, g3, g4, fun h0 => ?_⟩
      have g5 := g5 h0
      have g4' : a.b = b.b := g4
      unfold cutA at g5
      simp only at g5
      rw [if_neg h0, if_neg (by omega)] at g5
      omega
    rw [hn a ha b hb] at hg2; cases hg2

/-! ### Lists behind one another -/
theorem srt_app {l m : List Ar} {k : Nat} (hl : srt l) (hm : srt m) (h1 : ∀ a ∈ l, phi a ≤ k) (h2 : ∀ b ∈ m, k ≤ plo b) : srt (l ++ m) := by
  induction l with
  | nil => exact hm
  | cons a l ih =>
    refine ⟨hl.1, fun b hb => ?_, ih hl.2.2 fun c hc => h1 c (List.mem_cons_of_mem _ hc)⟩
    rcases List.mem_append.1 hb with hb | hb
    · exact hl.2.1 b hb
    · have := h1 a (List.mem_cons_self ..); have := h2 b hb; omega
theorem srt_app_left {l m : List Ar} (h : srt (l ++ m)) : srt l := by
  induction l with
  | nil => trivial
  | cons a l ih => exact ⟨h.1, fun b hb => h.2.1 b (List.mem_append_left _ hb), ih h.2.2⟩
theorem srt_app_right {l m : List Ar} (h : srt (l ++ m)) : srt m := by
  induction l with
  | nil => exact h
  | cons a l ih => exact ih h.2.2
theorem srt_app_le {l m : List Ar} (h : srt (l ++ m)) : ∀ a ∈ l, ∀ b ∈ m, phi a ≤ plo b := by
  induction l with
  | nil => intro a ha; simp at ha
  | cons c l ih =>
    intro a ha b hb
    rcases List.mem_cons.1 ha with e | ha
    · rw [e]; exact h.2.1 b (List.mem_append_right _ hb)
    · exact ih h.2.2 a ha b hb
theorem srt_of_app {l m : List Ar} (hl : srt l) (hm : srt m) (h : ∀ a ∈ l, ∀ b ∈ m, phi a ≤ plo b) : srt (l ++ m) := by
  induction l with
  | nil => exact hm
  | cons a l ih =>
    refine ⟨hl.1, fun b hb => ?_, ih hl.2.2 fun c hc => h c (List.mem_cons_of_mem _ hc)⟩
    rcases List.mem_append.1 hb with hb | hb
    · exact hl.2.1 b hb
    · exact h a (List.mem_cons_self ..) b hb
theorem pgs_app (l m : List Ar) (p : Nat) : pgs (l ++ m) p = (pgs l p).or (pgs m p) := by
  induction l with
  | nil => simp [pgs_nil]
  | cons a l ih =>
    rw [List.cons_append, pgs_cons, pgs_cons, ih]
    split <;> simp

/-! ### Joining -/
theorem ajoin_eq {a b : Ar} (ha : formed a = true) (hb : formed b = true) : ajoin a b = if goes a b then some { a with e := b.e } else none := by
  unfold ajoin
  cases hg : goes a b with
  | false => simp
  | true =>
    have hf : formed { a with e := b.e } = true := by
      obtain ⟨g1, g2, g3, g4, g5⟩ := (goes_iff ha hb).1 hg
      obtain ⟨a1, a2, a3, a4, a5⟩ := formed_pages ha
      obtain ⟨b1, b2, b3, b4, b5⟩ := formed_pages hb
      obtain ⟨f1, f2, f3, f4, f5, f6, f7, f8, f9, f10, f11, f12, f13⟩ := (formed_iff a).1 ha
      obtain ⟨k1, k2, k3, k4, k5, k6, k7, k8, k9, k10, k11, k12, k13⟩ := (formed_iff b).1 hb
      refine (formed_iff _).2 ?_
      simp only
      by_cases h0 : a.b = 0
      · have := f10 h0
        refine ⟨?_, ?_, ?_, ?_, ?_, ?_, ?_, ?_, ?_, ?_, ?_, ?_, ?_⟩ <;> omega
      · have := g5 h0
        refine ⟨?_, ?_, ?_, ?_, ?_, ?_, ?_, ?_, ?_, ?_, ?_, ?_, ?_⟩ <;> omega
    simp [hf]
/-- an area and the one that it goes on in, as one -/
theorem joined_one {a b : Ar} (ha : formed a = true) (hb : formed b = true) (hg : goes a b = true) : formed { a with e := b.e } = true ∧ plo { a with e := b.e } = plo a ∧ phi { a with e := b.e } = phi b ∧ (∀ p, pattr { a with e := b.e } p = pattr a p) ∧ (∀ p, pattr b p = pattr a p) := by
  obtain ⟨g1, g2, g3, g4, g5⟩ := (goes_iff ha hb).1 hg
  obtain ⟨a1, a2, a3, a4, a5⟩ := formed_pages ha
  obtain ⟨b1, b2, b3, b4, b5⟩ := formed_pages hb
  have hj := ajoin_eq ha hb
  rw [hg, if_pos rfl] at hj
  refine ⟨?_, rfl, rfl, fun p => rfl, fun p => ?_⟩
  · unfold ajoin at hj
    split at hj
    · rename_i h; simp only [Bool.and_eq_true] at h; exact h.2
    · cases hj
  · unfold pattr
    simp only [At.mk.injEq]
    refine ⟨g2.symm, g3.symm, g4.symm, ?_⟩
    by_cases h0 : a.b > 0
    · have := g5 (by omega)
      rw [if_pos (by omega), if_pos h0]; omega
    · rw [if_neg (by omega), if_neg h0]
theorem join_inv : ∀ (l out : List Ar), srt (out ++ l) → nog out → srt (l.foldl joinStep out) ∧ nog (l.foldl joinStep out) ∧ ∀ p, pgs (l.foldl joinStep out) p = pgs (out ++ l) p
  | [], out, h1, h2 => by rw [List.append_nil] at h1; exact ⟨h1, h2, fun p => by rw [List.append_nil]; rfl⟩
  | a :: l, out, h1, h2 => by
    rw [List.foldl_cons]
    have fa : formed a = true := srt_formed h1 a (by simp)
    have pa := formed_pages fa
    rcases List.eq_nil_or_concat out with rfl | ⟨init, z, rfl⟩
    · have e : joinStep [] a = [a] := rfl
      rw [e]
      refine join_inv l [a] h1 fun x hx y hy => ?_
      simp only [List.mem_cons, List.not_mem_nil, or_false] at hx hy
      rw [hx, hy]
      cases hg : goes a a with
      | false => rfl
      | true => have := ((goes_iff fa fa).1 hg).1; omega
    · rw [List.concat_eq_append] at h1 h2 ⊢
      have fz : formed z = true := srt_formed h1 z (by simp)
      have pz_ := formed_pages fz
      have e : joinStep (init ++ [z]) a = match ajoin z a with | some j => init ++ [j] | none => init ++ [z] ++ [a] := by
        cases h : ajoin z a <;> simp [joinStep, h]
      have hle := srt_app_le (l := init ++ [z]) (m := a :: l) h1
      have hsi := srt_app_left (l := init ++ [z]) h1
      have hiz := srt_app_le hsi
      have hza := hle z (by simp) a (by simp)
      rw [e, ajoin_eq fz fa]
      cases hg : goes z a with
      | true =>
        obtain ⟨j1, j2, j3, j4, j5⟩ := joined_one fz fa hg
        obtain ⟨g1, g2, g3, g4, g5⟩ := (goes_iff fz fa).1 hg
        simp only [if_true]
        have hsl := srt_app_right (l := init ++ [z]) h1
        have hs : srt (init ++ [{ z with e := a.e }] ++ l) := by
          rw [List.append_assoc]
          refine srt_of_app (srt_app_left hsi) ⟨j1, fun b hb => ?_, hsl.2.2⟩ fun x hx y hy => ?_
          · rw [j3]; exact hsl.2.1 b hb
          · have hxz := hiz x hx z (by simp)
            rcases List.mem_cons.1 hy with ey | hy
            · rw [ey, j2]; exact hxz
            · have := hle x (by simp [hx]) y (List.mem_cons_of_mem _ hy); exact this
        obtain ⟨r1, r2, r3⟩ := join_inv l (init ++ [{ z with e := a.e }]) hs fun x hx y hy => by
          have fx : formed x = true := srt_formed (srt_app_left (l := init ++ [{ z with e := a.e }]) hs) x hx
          have fy : formed y = true := srt_formed (srt_app_left (l := init ++ [{ z with e := a.e }]) hs) y hy
          cases hgx : goes x y with
          | false => rfl
          | true =>
            exfalso
            obtain ⟨k1, k2, k3, k4, k5⟩ := (goes_iff fx fy).1 hgx
            rcases List.mem_append.1 hx with hx | hx <;> rcases List.mem_append.1 hy with hy | hy
            · rw [h2 x (by simp [hx]) y (by simp [hy])] at hgx; cases hgx
            · simp only [List.mem_cons, List.not_mem_nil, or_false] at hy
              subst hy
              have : goes x z = true := (goes_iff fx fz).2 ⟨k1, k2, k3, k4, k5⟩
              rw [h2 x (by simp [hx]) z (by simp)] at this; cases this
            · simp only [List.mem_cons, List.not_mem_nil, or_false] at hx
              have := hiz y hy z (by simp)
              have py := formed_pages fy
              rw [hx, j3] at k1
              omega
            · simp only [List.mem_cons, List.not_mem_nil, or_false] at hx hy
              rw [hx, hy, j3, j2] at k1
              omega
        refine ⟨r1, r2, fun p => ?_⟩
        rw [r3, pgs_app, pgs_app, pgs_app (init ++ [z]), pgs_app init, pgs_cons, pgs_cons, pgs_cons, j2, j3, j4, j5]
        by_cases c1 : plo z ≤ p ∧ p < phi a
        · rw [if_pos c1]
          by_cases c2 : plo z ≤ p ∧ p < phi z
          · rw [if_pos c2]; cases pgs init p <;> simp
          · rw [if_neg c2, if_pos (show plo a ≤ p ∧ p < phi a by omega)]; cases pgs init p <;> simp [pgs_nil]
        · rw [if_neg c1, if_neg (by omega), if_neg (by omega)]
      | false =>
        simp only [Bool.false_eq_true, if_false]
        have hs : srt (init ++ [z] ++ [a] ++ l) := by simpa using h1
        obtain ⟨r1, r2, r3⟩ := join_inv l (init ++ [z] ++ [a]) hs fun x hx y hy => by
          have fx : formed x = true := srt_formed (srt_app_left (l := init ++ [z] ++ [a]) hs) x hx
          have fy : formed y = true := srt_formed (srt_app_left (l := init ++ [z] ++ [a]) hs) y hy
          have px := formed_pages fx
          have py := formed_pages fy
          cases hgx : goes x y with
          | false => rfl
          | true =>
            exfalso
            obtain ⟨k1, k2, k3, k4, k5⟩ := (goes_iff fx fy).1 hgx
            rcases List.mem_append.1 hx with hx | hx <;> rcases List.mem_append.1 hy with hy | hy
            · rw [h2 x hx y hy] at hgx; cases hgx
            · simp only [List.mem_cons, List.not_mem_nil, or_false] at hy
              rw [hy] at hgx k1
              rcases List.mem_append.1 hx with hx | hx
              · have := hiz x hx z (by simp); omega
              · simp only [List.mem_cons, List.not_mem_nil, or_false] at hx
                rw [hx, hg] at hgx; cases hgx
            · simp only [List.mem_cons, List.not_mem_nil, or_false] at hx
              have := hle y hy a (by simp)
              rw [hx] at k1; omega
            · simp only [List.mem_cons, List.not_mem_nil, or_false] at hx hy
              rw [hx, hy] at k1; omega
        refine ⟨r1, r2, fun p => ?_⟩
        rw [r3]; simp
theorem joined_spec {l : List Ar} (h : srt l) : srt (joinedS l) ∧ nog (joinedS l) ∧ ∀ p, pgs (joinedS l) p = pgs l p := by
  have := join_inv l [] h (fun x hx => by simp at hx)
  simpa [joinedS] using this
end Go.Abs
/-
  list.Put, Set, Cut and Covered, by pages; check.Range.
-/
namespace Go.Abs
set_option linter.unusedVariables false
set_option linter.unusedSimpArgs false

theorem right_srt {l : List Ar} (h : right l = true) : srt l := ((right_iff l).1 h).1
theorem right_nog {l : List Ar} (h : right l = true) : nog l := ((right_iff l).1 h).2
theorem right_formed {l : List Ar} (h : right l = true) : ∀ a ∈ l, formed a = true := srt_formed (right_srt h)
theorem right_ext {l m : List Ar} (hl : right l = true) (hm : right m = true) (h : ∀ p, pgs l p = pgs m p) : l = m := ext_pgs (right_srt hl) (right_nog hl) (right_srt hm) (right_nog hm) h
theorem pgs_range {l : List Ar} (h : srt l) {p : Nat} {t : At} (hp : pgs l p = some t) : 16 ≤ p ∧ p < 512 := by
  obtain ⟨a, ha, h1, h2, _⟩ := pgs_some hp
  have := formed_pages (srt_formed h a ha)
  omega

theorem put_spec {l : List Ar} (h : right l = true) {a : Ar} (ha : formed a = true) : right (putS l a) = true ∧ ∀ q, pgs (putS l a) q = if plo a ≤ q ∧ q < phi a then some (pattr a q) else pgs l q := by
  obtain ⟨a1, a2, a3, a4, a5⟩ := formed_pages ha
  have hs := right_srt h
  have hf := right_formed h
  have e : putS l a = joinedS (l.filterMap (clip 16 (plo a)) ++ a :: l.filterMap (clip (phi a) 512)) := by
    unfold putS
    rw [h, ha, a4, a5, ahead_clip hf a1 (by omega) a2, behind_clip hf (by omega) a3 a2]; rfl
  have h1 : srt (l.filterMap (clip 16 (plo a)) ++ a :: l.filterMap (clip (phi a) 512)) := by
    refine srt_of_app (clip_srt hs) ⟨ha, fun b hb => (clip_bd hb).1, clip_srt hs⟩ fun x hx y hy => ?_
    have := (clip_bd hx).2
    rcases List.mem_cons.1 hy with ey | hy
    · rw [ey]; exact this
    · have := (clip_bd hy).1; omega
  obtain ⟨r1, r2, r3⟩ := joined_spec h1
  rw [e]
  refine ⟨(right_iff _).2 ⟨r1, r2⟩, fun q => ?_⟩
  rw [r3, pgs_app, pgs_cons, clip_pgs hs, clip_pgs hs]
  by_cases c1 : plo a ≤ q ∧ q < phi a
  · rw [if_pos c1, if_pos c1, if_neg (by omega)]; rfl
  · rw [if_neg c1, if_neg c1]
    cases hq : pgs l q with
    | none => simp
    | some t =>
      have := pgs_range hs hq
      by_cases c2 : q < plo a
      · rw [if_pos (by omega)]; rfl
      · rw [if_neg (by omega), if_pos (by omega)]; rfl

def setA (p : Int) (t : At) : At := { t with p := p }
theorem map_srt {l : List Ar} {p : Int} (h0 : 0 ≤ p) (h7 : p ≤ 7) (h : srt l) : srt (l.map fun a => { a with p := p }) := by
  induction l with
  | nil => trivial
  | cons a l ih =>
    refine ⟨?_, fun b hb => ?_, ih h.2.2⟩
    · obtain ⟨f1, f2, f3, f4, f5, f6, f7, f8⟩ := (formed_iff a).1 h.1
      exact (formed_iff _).2 ⟨f1, f2, f3, f4, f5, h0, h7, f8⟩
    · obtain ⟨c, hc, rfl⟩ := List.mem_map.1 hb
      exact h.2.1 c hc
theorem map_pgs (p : Int) : ∀ (l : List Ar) (q : Nat), pgs (l.map fun a => { a with p := p }) q = (pgs l q).map (setA p)
  | [], q => rfl
  | a :: l, q => by
    rw [List.map_cons, pgs_cons, pgs_cons, map_pgs p l q]
    have e1 : plo { a with p := p } = plo a := rfl
    have e2 : phi { a with p := p } = phi a := rfl
    rw [e1, e2]
    by_cases hc : plo a ≤ q ∧ q < phi a
    · rw [if_pos hc, if_pos hc]; rfl
    · rw [if_neg hc, if_neg hc]
theorem set_spec {l : List Ar} (h : right l = true) {i j : Nat} (h1 : 16 ≤ i) (h2 : i < j) (h3 : j ≤ 512) {p : Int} (h0 : 0 ≤ p) (h7 : p ≤ 7) :
    right (setS l (4096 * (i : Int)) (4096 * (j : Int)) p) = true ∧ ∀ q, pgs (setS l (4096 * (i : Int)) (4096 * (j : Int)) p) q = if i ≤ q ∧ q < j then (pgs l q).map (setA p) else pgs l q := by
  have hs := right_srt h
  have hf := right_formed h
  have e : setS l (4096 * (i : Int)) (4096 * (j : Int)) p = joinedS (l.filterMap (clip 16 i) ++ ((l.filterMap (clip i j)).map (fun a => { a with p := p }) ++ l.filterMap (clip j 512))) := by
    unfold setS
    rw [if_pos (by simp [h, h0, h7]), ahead_clip hf h1 (by omega) h2, behind_clip hf (by omega) h3 h2, if_pos (by omega), within_clip hf h3]
  have hb : ∀ b ∈ (l.filterMap (clip i j)).map (fun a => { a with p := p }), i ≤ plo b ∧ phi b ≤ j := by
    intro b hb
    obtain ⟨c, hc, rfl⟩ := List.mem_map.1 hb
    have := clip_bd hc
    exact this
  have hs1 : srt (l.filterMap (clip 16 i) ++ ((l.filterMap (clip i j)).map (fun a => { a with p := p }) ++ l.filterMap (clip j 512))) := by
    refine srt_of_app (clip_srt hs) (srt_of_app (map_srt h0 h7 (clip_srt hs)) (clip_srt hs) fun x hx y hy => ?_) fun x hx y hy => ?_
    · have := (hb x hx).2; have := (clip_bd hy).1; omega
    · have := (clip_bd hx).2
      rcases List.mem_append.1 hy with hy | hy
      · have := (hb y hy).1; omega
      · have := (clip_bd hy).1; omega
  obtain ⟨r1, r2, r3⟩ := joined_spec hs1
  rw [e]
  refine ⟨(right_iff _).2 ⟨r1, r2⟩, fun q => ?_⟩
  rw [r3, pgs_app, pgs_app, map_pgs, clip_pgs hs, clip_pgs hs, clip_pgs hs]
  by_cases c1 : i ≤ q ∧ q < j
  · rw [if_pos c1, if_pos c1, if_neg (by omega), if_neg (by omega)]
    cases pgs l q <;> rfl
  · rw [if_neg c1, if_neg c1]
    cases hq : pgs l q with
    | none => simp
    | some t =>
      have := pgs_range hs hq
      by_cases c2 : q < i
      · rw [if_pos (by omega)]; rfl
      · rw [if_neg (by omega), if_pos (by omega)]; rfl
theorem cut_spec {l : List Ar} (h : right l = true) {i j : Nat} (h1 : 16 ≤ i) (h2 : i < j) (h3 : j ≤ 512) :
    right (cutS l (4096 * (i : Int)) (4096 * (j : Int))) = true ∧ ∀ q, pgs (cutS l (4096 * (i : Int)) (4096 * (j : Int))) q = if i ≤ q ∧ q < j then none else pgs l q := by
  have hs := right_srt h
  have hf := right_formed h
  have hn := right_nog h
  have e : cutS l (4096 * (i : Int)) (4096 * (j : Int)) = l.filterMap (clip 16 i) ++ l.filterMap (clip j 512) := by
    unfold cutS
    rw [if_pos h, ahead_clip hf h1 (by omega) h2, behind_clip hf (by omega) h3 h2]
  have hs1 : srt (l.filterMap (clip 16 i) ++ l.filterMap (clip j 512)) := srt_of_app (clip_srt hs) (clip_srt hs) fun x hx y hy => by
    have := (clip_bd hx).2; have := (clip_bd hy).1; omega
  rw [e]
  refine ⟨(right_iff _).2 ⟨hs1, fun x hx y hy => ?_⟩, fun q => ?_⟩
  · have fx := srt_formed hs1 x hx
    have fy := srt_formed hs1 y hy
    have px := formed_pages fx
    have py := formed_pages fy
    rcases List.mem_append.1 hx with hx | hx <;> rcases List.mem_append.1 hy with hy | hy
    · exact clip_nog hs hn x hx y hy
    · cases hg : goes x y with
      | false => rfl
      | true => have := ((goes_iff fx fy).1 hg).1; have := (clip_bd hx).2; have := (clip_bd hy).1; omega
    · cases hg : goes x y with
      | false => rfl
      | true => have := ((goes_iff fx fy).1 hg).1; have := (clip_bd hx).1; have := (clip_bd hy).2; omega
    · exact clip_nog hs hn x hx y hy
  · rw [pgs_app, clip_pgs hs, clip_pgs hs]
    by_cases c1 : i ≤ q ∧ q < j
    · rw [if_pos c1, if_neg (by omega), if_neg (by omega)]; rfl
    · rw [if_neg c1]
      cases hq : pgs l q with
      | none => simp
      | some t =>
        have := pgs_range hs hq
        by_cases c2 : q < i
        · rw [if_pos (by omega)]; rfl
        · rw [if_neg (by omega), if_pos (by omega)]; rfl

theorem cov_iff (j : Nat) : ∀ (W : List Ar) (x : Nat), srt W → (∀ b ∈ W, x ≤ plo b ∧ phi b ≤ j) → x ≤ j → (covEnd (covFrom (4096 * (x : Int)) W) (4096 * (j : Int)) = true ↔ ∀ q, x ≤ q → q < j → pgs W q ≠ none)
  | [], x, _, _, hx => by
    simp only [covFrom, covEnd, decide_eq_true_eq]
    constructor
    · intro h q h1 h2; omega
    · intro h
      rcases Nat.lt_or_ge x j with h1 | h1
      · exact absurd rfl (h x (Nat.le_refl _) h1)
      · omega
  | b :: W, x, hs, hb, hx => by
    obtain ⟨b1, b2, b3, b4, b5⟩ := formed_pages hs.1
    have hbb := hb b (List.mem_cons_self ..)
    rw [covFrom]
    by_cases h0 : b.s = 4096 * (x : Int)
    · rw [if_pos h0, b5, cov_iff j W (phi b) hs.2.2 (fun c hc => ⟨hs.2.1 c hc, (hb c (List.mem_cons_of_mem _ hc)).2⟩) hbb.2]
      constructor
      · intro h q h1 h2
        rw [pgs_cons]
        by_cases hc : plo b ≤ q ∧ q < phi b
        · rw [if_pos hc]; simp
        · rw [if_neg hc]; exact h q (by omega) h2
      · intro h q h1 h2
        have := h q (by omega) h2
        rwa [pgs_cons, if_neg (by omega)] at this
    · rw [if_neg h0]
      constructor
      · intro h; cases h
      · intro h
        refine absurd (pgs_none fun c hc => ?_) (h x (Nat.le_refl _) (by omega))
        rcases List.mem_cons.1 hc with e | hc
        · rw [e]; omega
        · have := hs.2.1 c hc; omega
theorem covered_iff {l : List Ar} (h : right l = true) {i j : Nat} (h1 : 16 ≤ i) (h2 : i < j) (h3 : j ≤ 512) : covered l (4096 * (i : Int)) (4096 * (j : Int)) = true ↔ ∀ q, i ≤ q → q < j → pgs l q ≠ none := by
  have hs := right_srt h
  unfold covered
  rw [within_clip (right_formed h) h3, afloor_al (by omega) (by omega) (by omega)]
  have e : (right l && decide (4096 * (i : Int) < 4096 * (j : Int)) && decide (65536 ≤ 4096 * (i : Int)) && decide (4096 * (j : Int) ≤ 2097152)) = true := by
    simp only [h, Bool.true_and, Bool.and_eq_true, decide_eq_true_eq]; omega
  rw [e, Bool.true_and, cov_iff j _ i (clip_srt hs) (fun b hb => clip_bd hb) (by omega)]
  constructor
  · intro hh q q1 q2
    have := hh q q1 q2
    rwa [clip_pgs hs, if_pos ⟨q1, q2⟩] at this
  · intro hh q q1 q2
    rw [clip_pgs hs, if_pos ⟨q1, q2⟩]; exact hh q q1 q2

/-! ### Ranges -/
theorem sizeS_ok {n : Int} (h : (sizeS n).2 = 0) : 0 < n ∧ n ≤ 2031616 ∧ (sizeS n).1 = (n + 4095) / 4096 * 4096 := by
  unfold sizeS at h ⊢
  split at h
  · simp at h
  · split at h
    · simp at h
    · rename_i h1 h2
      rw [if_neg h1, if_neg h2]; exact ⟨by omega, by omega, rfl⟩
theorem sizeS_mul {k : Nat} (h0 : 0 < k) (h1 : k ≤ 496) : sizeS (4096 * (k : Int)) = (4096 * (k : Int), 0) := by
  unfold sizeS
  rw [if_neg (by omega), if_neg (by omega)]
  simp only [Prod.mk.injEq, and_true]; omega
theorem rangeS_ok {a n : Int} (h : (rangeS a n).2.2 = 0) : ∃ i j : Nat, 16 ≤ i ∧ i < j ∧ j ≤ 512 ∧ a = 4096 * (i : Int) ∧ (j : Int) = i + (n + 4095) / 4096 ∧ 0 < n ∧ n ≤ 2031616 ∧ rangeS a n = (4096 * (i : Int), 4096 * (j : Int), 0) := by
  unfold rangeS at h ⊢
  split at h
  · simp at h
  · rename_i h1
    split at h
    · rename_i h2; exact absurd h h2
    · rename_i h2
      split at h
      · simp at h
      · rename_i h3
        obtain ⟨s1, s2, s3⟩ := sizeS_ok (by simpa using h2)
        rw [if_neg h1, if_neg h2, if_neg h3, s3]
        rw [s3] at h3
        refine ⟨(a / 4096).toNat, (a / 4096 + (n + 4095) / 4096).toNat, by omega, by omega, by omega, by omega, by omega, s1, s2, ?_⟩
        simp only [Prod.mk.injEq, and_true]
        omega
theorem rangeS_al {i j : Nat} (h1 : 16 ≤ i) (h2 : i < j) (h3 : j ≤ 512) : rangeS (4096 * (i : Int)) (4096 * ((j - i : Nat) : Int)) = (4096 * (i : Int), 4096 * (j : Int), 0) := by
  unfold rangeS
  rw [sizeS_mul (by omega) (by omega), if_neg (by omega)]
  simp only
  rw [if_neg (by simp), if_neg (by omega)]
  simp only [Prod.mk.injEq, and_true, true_and]
  omega
end Go.Abs
/-
  The right list of pages; lists that may come.
-/
namespace Go.Abs
set_option linter.unusedVariables false
set_option linter.unusedSimpArgs false

/-- what a page may have -/
def gat (t : At) : Prop := 0 ≤ t.p ∧ t.p ≤ 7 ∧ 0 ≤ t.b ∧ t.b ≤ 9 ∧ (t.b = 0 → t.o = 0) ∧ t.o % 4096 = 0 ∧ 0 ≤ t.o ∧ t.o ≤ 1099511623680
def gps (s : List Pg) : Prop := ∀ p, 16 ≤ p → p < 512 → (pgD s p).i = true → gat (pgD s p).at
theorem gat_pattr {a : Ar} (ha : formed a = true) {p : Nat} (h1 : plo a ≤ p) (h2 : p < phi a) : gat (pattr a p) := by
  obtain ⟨a1, a2, a3, a4, a5⟩ := formed_pages ha
  obtain ⟨f1, f2, f3, f4, f5, f6, f7, f8, f9, f10, f11, f12, f13⟩ := (formed_iff a).1 ha
  unfold gat pattr
  simp only
  by_cases h0 : a.b > 0
  · rw [if_pos h0]; exact ⟨f6, f7, f8, f9, fun h => by omega, by omega, by omega, by omega⟩
  · rw [if_neg h0]; exact ⟨f6, f7, f8, f9, fun _ => rfl, rfl, Int.le_refl _, by omega⟩
theorem gat_new {x : Pg} {p : Nat} (h1 : 16 ≤ p) (h2 : p < 512) (hg : gat x.at) : formed (newAr x p) = true ∧ plo (newAr x p) = p ∧ phi (newAr x p) = p + 1 ∧ pattr (newAr x p) p = x.at := by
  obtain ⟨g1, g2, g3, g4, g5, g6, g7, g8⟩ := hg
  simp only [Pg.at] at g1 g2 g3 g4 g5 g6 g7 g8
  refine ⟨(formed_iff _).2 ?_, ?_, ?_, ?_⟩
  · unfold newAr; simp only; exact ⟨by omega, by omega, by omega, by omega, by omega, g1, g2, g3, g4, g5, g6, g7, by omega⟩
  · unfold plo newAr; simp only; omega
  · unfold phi newAr; simp only; omega
  · unfold pattr newAr Pg.at
    simp only [At.mk.injEq, true_and]
    split
    · omega
    · rename_i h; exact (g5 (by omega)).symm
theorem after_iff {a b : At} (ha : gat a) : afterS a b = true ↔ a.p = b.p ∧ a.sh = b.sh ∧ a.b = b.b ∧ b.o = (if a.b > 0 then a.o + 4096 else a.o) := by
  obtain ⟨g1, g2, g3, g4, g5, g6, g7, g8⟩ := ha
  have hw : wr (a.o + 4096) = a.o + 4096 := wrap_id (by omega) (by omega)
  unfold afterS
  rw [decide_eq_true_eq, hw]
  by_cases h0 : a.b > 0
  · rw [if_pos h0, if_pos h0]
    cases a; cases b
    simp only [At.mk.injEq]
    exact ⟨fun ⟨h1, h2, h3, h4⟩ => ⟨h1, h2, h3, h4.symm⟩, fun ⟨h1, h2, h3, h4⟩ => ⟨h1, h2, h3, h4.symm⟩⟩
  · rw [if_neg h0, if_neg h0]
    cases a; cases b
    simp only [At.mk.injEq]
    exact ⟨fun ⟨h1, h2, h3, h4⟩ => ⟨h1, h2, h3, h4.symm⟩, fun ⟨h1, h2, h3, h4⟩ => ⟨h1, h2, h3, h4.symm⟩⟩

/-- the list of the pages up to one -/
structure Lst (s : List Pg) (k : Nat) (out : List Ar) : Prop where
  srt : srt out
  nog : nog out
  le : ∀ a ∈ out, phi a ≤ k
  pg : ∀ q, pgs out q = if 16 ≤ q ∧ q < k ∧ (pgD s q).i = true then some (pgD s q).at else none
theorem lst_step {s : List Pg} (hg : gps s) {k : Nat} (h1 : 16 ≤ k) (h2 : k < 512) {out : List Ar} (h : Lst s k out) : Lst s (k + 1) (listStep s out k) := by
  unfold listStep
  by_cases hi : (pgD s k).i = true
  case neg =>
    rw [if_neg hi]
    refine ⟨h.srt, h.nog, fun a ha => by have := h.le a ha; omega, fun q => ?_⟩
    rw [h.pg]
    by_cases e : q = k
    · subst e; rw [if_neg (by omega), if_neg (fun hh => hi hh.2.2)]
    · by_cases hc : 16 ≤ q ∧ q < k ∧ (pgD s q).i = true
      · rw [if_pos hc, if_pos ⟨hc.1, by omega, hc.2.2⟩]
      · rw [if_neg hc, if_neg (fun hh => hc ⟨hh.1, by omega, hh.2.2⟩)]
  rw [if_pos hi]
  obtain ⟨n1, n2, n3, n4⟩ := gat_new h1 h2 (hg k h1 h2 hi)
  have hk := hg k h1 h2 hi
  -- one more area, that nothing goes on in
  have more : (∀ x ∈ out, goes x (newAr (pgD s k) k) = false) → Lst s (k + 1) (out ++ [newAr (pgD s k) k]) := by
    intro hno
    have hs : Go.Abs.srt (out ++ [newAr (pgD s k) k]) := srt_of_app h.srt ⟨n1, fun b hb => by simp at hb, trivial⟩ fun x hx y hy => by
      simp only [List.mem_cons, List.not_mem_nil, or_false] at hy
      rw [hy, n2]; exact h.le x hx
    refine ⟨hs, fun x hx y hy => ?_, fun a ha => ?_, fun q => ?_⟩
    · rcases List.mem_append.1 hx with hx | hx <;> rcases List.mem_append.1 hy with hy | hy
      · exact h.nog x hx y hy
      · simp only [List.mem_cons, List.not_mem_nil, or_false] at hy
        rw [hy]; exact hno x hx
      · simp only [List.mem_cons, List.not_mem_nil, or_false] at hx
        have fy := srt_formed h.srt y hy
        cases hgo : goes x y with
        | false => rfl
        | true =>
          rw [hx] at hgo
          have := ((goes_iff n1 fy).1 hgo).1
          have := h.le y hy
          have := formed_pages fy
          omega
      · simp only [List.mem_cons, List.not_mem_nil, or_false] at hx hy
        rw [hx, hy]
        cases hgo : goes (newAr (pgD s k) k) (newAr (pgD s k) k) with
        | false => rfl
        | true => have := ((goes_iff n1 n1).1 hgo).1; omega
    · rcases List.mem_append.1 ha with ha | ha
      · have := h.le a ha; omega
      · simp only [List.mem_cons, List.not_mem_nil, or_false] at ha
        rw [ha, n3]; exact Nat.le_refl _
    · rw [pgs_app, h.pg, pgs_cons, n2, n3, pgs_nil]
      by_cases e : q = k
      · subst e
        rw [if_neg (by omega), if_pos (by omega), if_pos ⟨h1, by omega, hi⟩, n4]; rfl
      · by_cases hc : 16 ≤ q ∧ q < k ∧ (pgD s q).i = true
        · rw [if_pos hc, if_neg (by omega), if_pos ⟨hc.1, by omega, hc.2.2⟩]; rfl
        · rw [if_neg hc, if_neg (by omega), if_neg (fun hh => hc ⟨hh.1, by omega, hh.2.2⟩)]; rfl
  rcases List.eq_nil_or_concat out with rfl | ⟨init, z, rfl⟩
  · exact more fun x hx => by simp at hx
  · rw [List.concat_eq_append] at h more ⊢
    have fz : formed z = true := srt_formed h.srt z (by simp)
    have hz := formed_pages fz
    have hlz := h.le z (by simp)
    have hiz := srt_app_le h.srt
    have e1 : (init ++ [z]).getLast? = some z := by simp
    have e2 : (init ++ [z]).dropLast = init := by simp
    simp only [e1, e2]
    by_cases hze : phi z = k
    · have hpk : pgs (init ++ [z]) (k - 1) = some (pattr z (k - 1)) := pgs_mem h.srt (by simp) (by omega) (by omega)
      have hpk' := h.pg (k - 1)
      rw [hpk] at hpk'
      have hat : pattr z (k - 1) = (pgD s (k - 1)).at := by
        split at hpk'
        · injection hpk'
        · cases hpk'
      have hb : (z.e == 4096 * (k : Int)) = true := by simp only [beq_iff_eq]; omega
      rw [hb, Bool.true_and]
      have gz := gat_pattr fz (p := k - 1) (by omega) (by omega)
      by_cases haf : afterS (pgD s (k - 1)).at (pgD s k).at = true
      · rw [if_pos haf]
        rw [← hat] at haf
        obtain ⟨t1, t2, t3, t4⟩ := (after_iff gz).1 haf
        have hgo : goes z (newAr (pgD s k) k) = true := by
          refine (goes_iff fz n1).2 ⟨by rw [n2]; exact hze, t1, t2, t3, fun h0 => ?_⟩
          have hb0 : z.b > 0 := by have := ((formed_iff z).1 fz).2.2.2.2.2.2.2.1; omega
          simp only [pattr, hb0, if_true, Pg.at] at t4
          show (pgD s k).o = _
          omega
        obtain ⟨j1, j2, j3, j4, j5⟩ := joined_one fz n1 hgo
        have ej : ({ z with e := (newAr (pgD s k) k).e } : Ar) = { z with e := 4096 * ((k + 1 : Nat) : Int) } := rfl
        rw [ej] at j1 j2 j3 j4
        have hs : Go.Abs.srt (init ++ [{ z with e := 4096 * ((k + 1 : Nat) : Int) }]) := srt_of_app (srt_app_left h.srt) ⟨j1, fun b hb => by simp at hb, trivial⟩ fun x hx y hy => by
          simp only [List.mem_cons, List.not_mem_nil, or_false] at hy
          rw [hy, j2]; exact hiz x hx z (by simp)
        refine ⟨hs, fun x hx y hy => ?_, fun a ha => ?_, fun q => ?_⟩
        · have fx := srt_formed hs x hx
          have fy := srt_formed hs y hy
          cases hgx : goes x y with
          | false => rfl
          | true =>
            exfalso
            obtain ⟨k1, k2, k3, k4, k5⟩ := (goes_iff fx fy).1 hgx
            have py := formed_pages fy
            rcases List.mem_append.1 hx with hx | hx <;> rcases List.mem_append.1 hy with hy | hy
            · rw [h.nog x (by simp [hx]) y (by simp [hy])] at hgx; cases hgx
            · simp only [List.mem_cons, List.not_mem_nil, or_false] at hy
              subst hy
              have : goes x z = true := (goes_iff fx fz).2 ⟨k1, k2, k3, k4, k5⟩
              rw [h.nog x (by simp [hx]) z (by simp)] at this; cases this
            · simp only [List.mem_cons, List.not_mem_nil, or_false] at hx
              have := hiz y hy z (by simp)
              rw [hx, j3, n3] at k1; omega
            · simp only [List.mem_cons, List.not_mem_nil, or_false] at hx hy
              rw [hx, hy, j3, j2, n3] at k1; omega
        · rcases List.mem_append.1 ha with ha | ha
          · have := h.le a (by simp [ha]); omega
          · simp only [List.mem_cons, List.not_mem_nil, or_false] at ha
            rw [ha, j3, n3]; exact Nat.le_refl _
        · have hold := h.pg q
          rw [pgs_app, pgs_cons, pgs_nil] at hold
          rw [pgs_app, pgs_cons, pgs_nil, j2, j3, j4, n3]
          by_cases e : q = k
          · subst e
            rw [if_neg (by omega), if_neg (by omega)] at hold
            rw [if_pos (by omega), if_pos ⟨h1, by omega, hi⟩, ← n4, j5]
            cases hq : pgs init q with
            | none => rfl
            | some t => rw [hq] at hold; cases hold
          · by_cases c : plo z ≤ q ∧ q < phi z
            · rw [if_pos c] at hold
              rw [if_pos (by omega), hold]
              by_cases hc : 16 ≤ q ∧ q < k ∧ (pgD s q).i = true
              · rw [if_pos hc, if_pos ⟨hc.1, by omega, hc.2.2⟩]
              · rw [if_neg hc, if_neg (fun hh => hc ⟨hh.1, by omega, hh.2.2⟩)]
            · rw [if_neg c] at hold
              rw [if_neg (by omega), hold]
              by_cases hc : 16 ≤ q ∧ q < k ∧ (pgD s q).i = true
              · rw [if_pos hc, if_pos ⟨hc.1, by omega, hc.2.2⟩]
              · rw [if_neg hc, if_neg (fun hh => hc ⟨hh.1, by omega, hh.2.2⟩)]
      · rw [if_neg haf]
        refine more fun x hx => ?_
        have fx := srt_formed h.srt x hx
        cases hgx : goes x (newAr (pgD s k) k) with
        | false => rfl
        | true =>
          exfalso
          obtain ⟨k1, k2, k3, k4, k5⟩ := (goes_iff fx n1).1 hgx
          rcases List.mem_append.1 hx with hx | hx
          · have := hiz x hx z (by simp)
            rw [n2] at k1; omega
          · simp only [List.mem_cons, List.not_mem_nil, or_false] at hx
            subst hx
            apply haf
            rw [← hat, after_iff gz]
            refine ⟨k2, k3, k4, ?_⟩
            show (pgD s k).o = _
            unfold pattr
            simp only
            by_cases h0 : x.b > 0
            · have k5 : (pgD s k).o = _ := k5 (by omega)
              rw [if_pos h0, if_pos h0, k5]; omega
            · rw [if_neg h0, if_neg h0]
              have k4 : x.b = (pgD s k).b := k4
              exact hk.2.2.2.2.1 (show (pgD s k).b = 0 by have := ((formed_iff x).1 fz).2.2.2.2.2.2.2.1; omega)
    · have hb : (z.e == 4096 * (k : Int)) = false := by
        cases hh : z.e == 4096 * (k : Int) with
        | false => rfl
        | true => simp only [beq_iff_eq] at hh; omega
      rw [hb, Bool.false_and, if_neg (by simp)]
      refine more fun x hx => ?_
      have fx := srt_formed h.srt x hx
      cases hgx : goes x (newAr (pgD s k) k) with
      | false => rfl
      | true =>
        exfalso
        have k1 := ((goes_iff fx n1).1 hgx).1
        rw [n2] at k1
        rcases List.mem_append.1 hx with hx | hx
        · have := hiz x hx z (by simp); omega
        · simp only [List.mem_cons, List.not_mem_nil, or_false] at hx
          rw [hx] at k1; omega
theorem lst_all {s : List Pg} (hg : gps s) : ∀ n, n ≤ 496 → Lst s (16 + n) ((List.range' 16 n).foldl (listStep s) [])
  | 0, _ => ⟨trivial, fun x hx => by simp at hx, fun a ha => by simp at ha, fun q => by rw [if_neg (by omega)]; rfl⟩
  | n + 1, hn => by
    rw [List.range'_1_concat, List.foldl_append]
    have := lst_step (k := 16 + n) hg (by omega) (by omega) (lst_all hg n (by omega))
    exact this
theorem listS_spec {s : List Pg} (hg : gps s) : right (listS s) = true ∧ ∀ q, pgs (listS s) q = if 16 ≤ q ∧ q < 512 ∧ (pgD s q).i = true then some (pgD s q).at else none := by
  have h0 : ∀ n, n = 496 → Lst s (16 + n) ((List.range' 16 n).foldl (listStep s) []) := fun n hn => lst_all hg n (by omega)
  have this : Lst s 512 (listS s) := by
    have := h0 496 rfl
    unfold listS
    rwa [show 16 + 496 = 512 from rfl] at this
  have key : ∀ L, Lst s 512 L → right L = true ∧ ∀ q, pgs L q = if 16 ≤ q ∧ q < 512 ∧ (pgD s q).i = true then some (pgD s q).at else none := fun L h => And.intro ((right_iff L).2 (And.intro h.srt h.nog)) h.pg
  exact key _ this

theorem pgD_updm {s : List Pg} {lo hi p : Nat} {f : Nat → Pg → Pg} (hp : p < s.length) : pgD (upd s lo hi f) p = if lo ≤ p ∧ p < hi then f p (pgD s p) else pgD s p := by
  have h1 : s[p]? = some (pgD s p) := by simp [pgD, hp]
  have h2 := upd_get s lo hi f p
  rw [h1] at h2
  simp only [pgD, List.getD_eq_getElem?_getD, h2]
  simp [pgD]
theorem pgD_pzm (p : Nat) : pgD pz p = Pg.zero := by
  unfold pgD pz
  rw [List.getD_eq_getElem?_getD, List.getElem?_replicate]
  split <;> rfl
theorem gps_pz : gps pz := fun p _ _ h => by rw [pgD_pzm] at h; cases h
theorem gps_ofStep {s : List Pg} (hs : s.length = 512) (hg : gps s) {a : Ar} (ha : formed a = true) : gps (ofStep s a) := fun p h1 h2 hi => by
  unfold ofStep at hi ⊢
  rw [pgD_updm (by omega)] at hi ⊢
  by_cases hc : plo a ≤ p ∧ p < phi a
  · rw [if_pos hc]; exact gat_pattr ha hc.1 hc.2
  · rw [if_neg hc] at hi ⊢; exact hg p h1 h2 hi
theorem gps_made (l : List Ar) : ∀ s : List Pg, s.length = 512 → gps s → gps (l.foldl madeStep s) := by
  induction l with
  | nil => intro s _ h; exact h
  | cons a l ih =>
    intro s hs hg
    rw [List.foldl_cons]
    refine ih _ (by rw [madeStep_len, hs]) ?_
    unfold madeStep
    split
    · rename_i h; exact gps_ofStep hs hg h
    · exact hg
theorem gps_madeP (l : List Ar) : gps (madeP l) := by unfold madeP; exact gps_made (l.take 40) pz pz_len gps_pz
theorem right_made (l : List Ar) : right (madeS l) = true := by unfold madeS; exact (listS_spec (gps_madeP l)).1
theorem right_take {l : List Ar} (h : right l = true) (k : Nat) : right (l.take k) = true := by
  have hs := right_srt h
  have hn := right_nog h
  refine (right_iff _).2 ⟨srt_app_left (m := l.drop k) (by rw [List.take_append_drop]; exact hs), fun x hx y hy => hn x (List.mem_of_mem_take hx) y (List.mem_of_mem_take hy)⟩
theorem right_some (l : List Ar) : right (someS l) = true := right_take (right_made l) 24
theorem some_len (l : List Ar) : (someS l).length ≤ 24 := by unfold someS; simp; omega
theorem may_some (l : List Ar) : mayS (someS l) = true := by
  unfold mayS; rw [right_some]; simp [some_len]
end Go.Abs
/-
  protect.Protect, by pages.
-/
namespace Go.Abs
set_option linter.unusedVariables false
set_option linter.unusedSimpArgs false

theorem may_right {l : List Ar} (h : mayS l = true) : right l = true ∧ l.length ≤ 24 := by
  unfold mayS at h
  simp only [Bool.and_eq_true, decide_eq_true_eq] at h
  exact h
theorem may_of {l : List Ar} (h : right l = true) (h1 : l.length ≤ 24) : mayS l = true := by
  unfold mayS; rw [h]; simp [h1]
theorem protect_al {x : List Ar} (hx : mayS x = true) {i j : Nat} (h1 : 16 ≤ i) (h2 : i < j) (h3 : j ≤ 512) {c : Ca} (ha : c.a = 4096 * (i : Int)) (hl : c.l = 4096 * ((j - i : Nat) : Int)) :
    protectS x c = if c.p < 0 ∨ c.p > 7 then (x, ansE 1) else if covered x (4096 * (i : Int)) (4096 * (j : Int)) then keptS x (setS x (4096 * (i : Int)) (4096 * (j : Int)) c.p) 0 else (x, ansE 7) := by
  have hr : rangeS c.a c.l = (4096 * (i : Int), 4096 * (j : Int), 0) := by rw [ha, hl]; exact rangeS_al h1 h2 h3
  have hw : pwrongS x c = if c.p < 0 ∨ c.p > 7 then (4096 * (i : Int), 4096 * (j : Int), 1) else if covered x (4096 * (i : Int)) (4096 * (j : Int)) then (4096 * (i : Int), 4096 * (j : Int), 0) else (4096 * (i : Int), 4096 * (j : Int), 7) := by
    unfold pwrongS
    rw [hx, hr]
    simp only [Bool.not_true, Bool.false_eq_true, if_false, ne_eq, not_true_eq_false, protS]
    by_cases hp : c.p < 0 ∨ c.p > 7
    · simp [hp]
    · cases hc : covered x (4096 * (i : Int)) (4096 * (j : Int)) <;> simp [hp, hc]
  unfold protectS
  rw [hw]
  by_cases hp : c.p < 0 ∨ c.p > 7
  · simp [hp]
  · cases hc : covered x (4096 * (i : Int)) (4096 * (j : Int)) <;> simp [hp, hc]
theorem kept_err {was now : List Ar} {v : Int} : (keptS was now v).2.s = if now.length > 24 then 9 else 0 := by
  unfold keptS; split <;> rfl
/-- what was protected without an error -/
theorem protect_ok {x : List Ar} {c : Ca} (h : (protectS x c).2.s = 0) : mayS x = true ∧ ∃ i j : Nat, 16 ≤ i ∧ i < j ∧ j ≤ 512 ∧ c.a = 4096 * (i : Int) ∧ (j : Int) = i + (c.l + 4095) / 4096 ∧ 0 < c.l ∧ c.l ≤ 2031616 ∧ 0 ≤ c.p ∧ c.p ≤ 7 ∧
    covered x (4096 * (i : Int)) (4096 * (j : Int)) = true ∧ (setS x (4096 * (i : Int)) (4096 * (j : Int)) c.p).length ≤ 24 ∧ protectS x c = (setS x (4096 * (i : Int)) (4096 * (j : Int)) c.p, ansV 0) := by
  unfold protectS at h ⊢
  by_cases hw : (pwrongS x c).2.2 = 0
  · rw [if_neg (by simpa using hw)] at h ⊢
    have hm : mayS x = true := by
      cases hm : mayS x with
      | true => rfl
      | false => unfold pwrongS at hw; rw [hm] at hw; simp at hw
    have hr : (rangeS c.a c.l).2.2 = 0 := by
      by_cases hr : (rangeS c.a c.l).2.2 = 0
      · exact hr
      · exfalso
        unfold pwrongS at hw
        simp only [hm, Bool.not_true, Bool.false_eq_true, if_false, ne_eq, hr, not_false_eq_true, if_true] at hw
    obtain ⟨i, j, h1, h2, h3, h4, h5, h6, h7, h8⟩ := rangeS_ok hr
    have hp : protS c.p = 0 := by
      by_cases hp : protS c.p = 0
      · exact hp
      · exfalso
        unfold pwrongS at hw
        simp only [hm, Bool.not_true, Bool.false_eq_true, if_false, ne_eq, hr, not_true_eq_false, hp, not_false_eq_true, if_true] at hw
    have hp2 : 0 ≤ c.p ∧ c.p ≤ 7 := by unfold protS at hp; split at hp <;> omega
    have hc : covered x (4096 * (i : Int)) (4096 * (j : Int)) = true := by
      cases hc : covered x (4096 * (i : Int)) (4096 * (j : Int)) with
      | true => rfl
      | false =>
        exfalso
        unfold pwrongS at hw
        simp only [hm, h8, Bool.not_true, Bool.false_eq_true, if_false, ne_eq, not_true_eq_false, hp, hc, Bool.not_false, if_true] at hw
        simp at hw
    have hpw : pwrongS x c = (4096 * (i : Int), 4096 * (j : Int), 0) := by
      unfold pwrongS
      simp only [hm, h8, Bool.not_true, Bool.false_eq_true, if_false, ne_eq, not_true_eq_false, hp, hc]
    rw [hpw] at h ⊢
    simp only at h ⊢
    rw [kept_err] at h
    have hlen : (setS x (4096 * (i : Int)) (4096 * (j : Int)) c.p).length ≤ 24 := by
      split at h
      · cases h
      · omega
    refine ⟨hm, i, j, h1, h2, h3, h4, h5, h6, h7, hp2.1, hp2.2, hc, hlen, ?_⟩
    unfold keptS; rw [if_neg (by omega)]
  · rw [if_pos (by simpa using hw)] at h
    exact absurd h hw
theorem protect_no {x : List Ar} {c : Ca} (h : (protectS x c).2.s ≠ 0) : (protectS x c).1 = x := by
  unfold protectS at h ⊢
  split
  · rfl
  · rename_i hw
    rw [if_neg hw] at h
    rw [kept_err] at h
    unfold keptS
    split
    · rfl
    · rename_i hl; rw [if_neg hl] at h; exact absurd rfl h

/-! ### Setting a whole area -/
theorem set_whole_len {x : List Ar} (hx : right x = true) {a : Ar} (ha : a ∈ x) {p : Int} (h0 : 0 ≤ p) (h7 : p ≤ 7) : (setS x (4096 * (plo a : Int)) (4096 * (phi a : Int)) p).length ≤ x.length := by
  have hf := right_formed hx
  have hs := right_srt hx
  obtain ⟨a1, a2, a3, a4, a5⟩ := formed_pages (hf a ha)
  have e : setS x (4096 * (plo a : Int)) (4096 * (phi a : Int)) p = joinedS (x.filterMap (clip 16 (plo a)) ++ ((x.filterMap (clip (plo a) (phi a))).map (fun a => { a with p := p }) ++ x.filterMap (clip (phi a) 512))) := by
    unfold setS
    rw [if_pos (by simp [hx, h0, h7]), ahead_clip hf a1 (by omega) a2, behind_clip hf (by omega) a3 a2, if_pos (by omega), within_clip hf a3]
  have hjl : ∀ l : List Ar, (joinedS l).length ≤ l.length := by
    have key : ∀ (l out : List Ar), (l.foldl joinStep out).length ≤ out.length + l.length := by
      intro l
      induction l with
      | nil => intro out; simp
      | cons b l ih =>
        intro out
        have h1 := ih (joinStep out b)
        have h2 : (joinStep out b).length ≤ out.length + 1 := by
          unfold joinStep
          split
          · simp
          · split <;> simp
        simp only [List.foldl_cons, List.length_cons]; omega
    intro l; simpa [joinedS] using key l []
  rw [e]
  refine Nat.le_trans (hjl _) ?_
  simp only [List.length_append, List.length_map]
  have key : ∀ l : List Ar, (∀ b ∈ l, formed b = true ∧ (phi b ≤ plo a ∨ b = a ∨ phi a ≤ plo b)) → (l.filterMap (clip 16 (plo a))).length + ((l.filterMap (clip (plo a) (phi a))).length + (l.filterMap (clip (phi a) 512)).length) ≤ l.length := by
    intro l
    induction l with
    | nil => intro _; simp
    | cons b l ih =>
      intro hb
      have h1 := ih fun c hc => hb c (List.mem_cons_of_mem _ hc)
      obtain ⟨fb, hb⟩ := hb b (List.mem_cons_self ..)
      have pb := formed_pages fb
      simp only [List.filterMap_cons]
      rcases hb with hb | hb | hb
      · have e1 : clip (plo a) (phi a) b = none := by unfold clip; rw [if_neg (by omega)]
        have e2 : clip (phi a) 512 b = none := by unfold clip; rw [if_neg (by omega)]
        rw [e1, e2]
        cases clip 16 (plo a) b <;> simp <;> omega
      · subst hb
        have e1 : clip 16 (plo b) b = none := by unfold clip; rw [if_neg (by omega)]
        have e2 : clip (phi b) 512 b = none := by unfold clip; rw [if_neg (by omega)]
        rw [e1, e2]
        cases clip (plo b) (phi b) b <;> simp <;> omega
      · have e1 : clip (plo a) (phi a) b = none := by unfold clip; rw [if_neg (by omega)]
        have e2 : clip 16 (plo a) b = none := by unfold clip; rw [if_neg (by omega)]
        rw [e1, e2]
        cases clip (phi a) 512 b <;> simp <;> omega
  refine key x fun b hb => ⟨hf b hb, ?_⟩
  have sep : ∀ {l : List Ar}, srt l → ∀ {x y : Ar}, x ∈ l → y ∈ l → phi x ≤ plo y ∨ x = y ∨ phi y ≤ plo x := by
    intro l
    induction l with
    | nil => intro _ x y hx; simp at hx
    | cons c l ih =>
      intro h x y hx hy
      rcases List.mem_cons.1 hx with ex | hx <;> rcases List.mem_cons.1 hy with ey | hy
      · exact .inr (.inl (by rw [ex, ey]))
      · rw [ex]; exact .inl (h.2.1 y hy)
      · rw [ey]; exact .inr (.inr (h.2.1 x hx))
      · exact ih h.2.2 hx hy
  exact sep hs hb ha
theorem covered_area {x : List Ar} (hx : right x = true) {a : Ar} (ha : a ∈ x) : covered x (4096 * (plo a : Int)) (4096 * (phi a : Int)) = true := by
  obtain ⟨a1, a2, a3, a4, a5⟩ := formed_pages (right_formed hx a ha)
  refine (covered_iff hx a1 a2 a3).2 fun q h1 h2 => ?_
  rw [pgs_mem (right_srt hx) ha h1 h2]; simp

/-- protected otherwise, and again as it was -/
theorem back_again {x : List Ar} (hx : mayS x = true) {a : Ar} (ha : a ∈ x) {p : Int} (h0 : 0 ≤ p) (h7 : p ≤ 7) :
    let c : Ca := ⟨0, a.s, a.e - a.s, 0, 0, p, 0, 0, 0⟩; let c' : Ca := ⟨0, a.s, a.e - a.s, 0, 0, a.p, 0, 0, 0⟩
    (protectS x c).2.s = 0 ∧ (protectS (protectS x c).1 c').2.s = 0 ∧ (protectS (protectS x c).1 c').1 = x := by
  intro c c'
  obtain ⟨hr, hl⟩ := may_right hx
  have fa := right_formed hr a ha
  obtain ⟨a1, a2, a3, a4, a5⟩ := formed_pages fa
  have fp := ((formed_iff a).1 fa)
  have hcl : a.e - a.s = 4096 * ((phi a - plo a : Nat) : Int) := by omega
  have e1 : protectS x c = (setS x (4096 * (plo a : Int)) (4096 * (phi a : Int)) p, ansV 0) := by
    rw [protect_al hx a1 a2 a3 (c := c) a4 hcl, if_neg (by show ¬ (p < 0 ∨ p > 7); omega), if_pos (covered_area hr ha)]
    have := set_whole_len hr ha h0 h7
    unfold keptS; rw [if_neg (by show ¬ (setS x _ _ p).length > 24; omega)]
  obtain ⟨r1, r2⟩ := set_spec hr a1 a2 a3 h0 h7
  have hy : mayS (setS x (4096 * (plo a : Int)) (4096 * (phi a : Int)) p) = true := may_of r1 (by have := set_whole_len hr ha h0 h7; omega)
  rw [e1]
  generalize setS x (4096 * (plo a : Int)) (4096 * (phi a : Int)) p = y at r1 r2 hy
  have hcov : covered y (4096 * (plo a : Int)) (4096 * (phi a : Int)) = true := (covered_iff r1 a1 a2 a3).2 fun q q1 q2 => by
    rw [r2, if_pos ⟨q1, q2⟩, pgs_mem (right_srt hr) ha q1 q2]; simp
  obtain ⟨s1, s2⟩ := set_spec r1 a1 a2 a3 (p := a.p) fp.2.2.2.2.2.1 fp.2.2.2.2.2.2.1
  have hback : setS y (4096 * (plo a : Int)) (4096 * (phi a : Int)) a.p = x := right_ext s1 hr fun q => by
    rw [s2, r2]
    by_cases hc : plo a ≤ q ∧ q < phi a
    · rw [if_pos hc, if_pos hc, pgs_mem (right_srt hr) ha hc.1 hc.2]; rfl
    · rw [if_neg hc, if_neg hc]
  have e2 : protectS y c' = (x, ansV 0) := by
    rw [protect_al hy a1 a2 a3 (c := c') a4 hcl, if_neg (by show ¬ (a.p < 0 ∨ a.p > 7); omega), if_pos hcov]
    show keptS y (setS y (4096 * (plo a : Int)) (4096 * (phi a : Int)) a.p) 0 = _
    rw [hback]
    unfold keptS; rw [if_neg (by omega)]
  rw [e2]
  exact ⟨rfl, rfl, rfl⟩
end Go.Abs
