/-
  ProtectHalves.
-/
import Derived.Test.YtcgogenmikakkaaK7
import Derived.Test.YtcgogenmikakkaaE0
import Derived.Test.YtcgogenmikakkaaM6
namespace Go.Abs
set_option linter.unusedVariables false
set_option linter.unusedSimpArgs false
open Go.Proofs
set_option maxHeartbeats 8000000
theorem law_ProtectHalves (l : List Ar) (hl : ∀ a ∈ l, a.ok) (b : Int × Int × Int × Int) (hb : (0 ≤ b.1 ∧ b.1 < 256) ∧ (0 ≤ b.2.1 ∧ b.2.1 < 256) ∧ (0 ≤ b.2.2.1 ∧ b.2.2.1 < 256) ∧ (0 ≤ b.2.2.2 ∧ b.2.2.2 < 256)) (H : Heap) :
    ACalls Try.prog 3 [.s (LV Ar.c l), .agg [.raw (.int .u8 b.1), .raw (.int .u8 b.2.1), .raw (.int .u8 b.2.2.1), .raw (.int .u8 b.2.2.2)]] H (.s (Bo true)) H := by
  have q0 : ((0 : Int) < ((4 : Nat) : Int)) = True := eq_true (by omega)
  have q1 : ((1 : Int) < ((4 : Nat) : Int)) = True := eq_true (by omega)
  have q2 : ((2 : Int) < ((4 : Nat) : Int)) = True := eq_true (by omega)
  have q3 : ((3 : Int) < ((4 : Nat) : Int)) = True := eq_true (by omega)
  obtain ⟨b0, b1, b2, b3⟩ := b
  simp only at hb ⊢
  refine acalls_pure te_ok mix Try.func3 rfl Try.call3 (by kernel_rfl) (by kernel_rfl) rfl rfl ?_; simp only [Try.results3]
  by_cases h20 : l.length > 20
  · have f20 : ((l.length : Int) > 20) = True := eq_true (by omega)
    repeat' (first | (with_reducible first | refine vops_ng ?_ | refine vops_nil' ?_ | refine pthen_ni ?_ | refine pthen_ri ?_ | refine pthen_ei ?_ | refine pblock_ni ?_ | refine pblock_ri ?_ | refine pblock_ei ?_ | refine pblock_en rfl ?_ | refine vc_skip_i ?_ | refine vc_ret_i ?_ | refine vc_exit_i ?_ | refine vc_block_i ?_ | refine vd_ng ?_ | refine vd_nil' ?_ | refine vc_seq' fun K_ hK_ => ?_ | refine vc_region' fun K_ hK_ => ?_ | refine vc_draw' (by kernel_rfl) fun K_ hK_ => ?_) | refine vops_gf rfl ?_ | refine vops_gt rfl ?_ | refine vd_gf rfl ?_ | refine vd_gt rfl ?_ | ((with_reducible first | refine vx_op' rfl fun k_ hk_ => ?_ | refine vx_call' fun k_ hk_ => ?_ | refine pret_r' fun k_ hk_ => ?_ | refine pret_n' fun k_ hk_ => ?_ | refine vdx_0 rfl fun k_ hk_ => ?_ | refine vdx_call fun k_ hk_ => ?_ | refine vdx_1 rfl rfl fun k_ hk_ => ?_ | refine vdx_2 rfl fun k_ hk_ => ?_); simp only [go_sem, reduceIte, Nat.reduceEqDiff, Nat.reduceLT, Nat.reduceLeDiff, Nat.reduceAdd, Nat.reduceMul, Nat.reduceSub, Nat.reduceBEq, reduceCtorEq, Int.reduceEq, Int.reduceNe, Int.reduceLT, Int.reduceLE, Int.reduceGT, Int.reduceGE, Int.reduceAdd, Int.reduceSub, Int.reduceMul, Int.reduceNeg, Int.reduceToNat, reduceDIte, f20, q0, q1, q2, q3]; (with_reducible first | refine hk_ _ _ ?_ | refine hk_ _ ?_ | refine hk_ _ _ (by (first | exact HExtR.refl _ | (refine HExtR.push ?_; first | rfl | simp only [go_sem, f20, q0, q1, q2, q3]))) ?_); clear hk_ k_) | ((with_reducible first | refine vops_g' fun x_ y_ hx_ hy_ => ?_ | refine vd_g' fun x_ y_ hx_ hy_ => ?_ | refine vc_cond'' fun x_ y_ hx_ hy_ => ?_); simp only [go_sem, reduceIte, Nat.reduceEqDiff, Nat.reduceLT, Nat.reduceLeDiff, Nat.reduceAdd, Nat.reduceMul, Nat.reduceSub, Nat.reduceBEq, reduceCtorEq, Int.reduceEq, Int.reduceNe, Int.reduceLT, Int.reduceLE, Int.reduceGT, Int.reduceGE, Int.reduceAdd, Int.reduceSub, Int.reduceMul, Int.reduceNeg, Int.reduceToNat, reduceDIte, f20, q0, q1, q2, q3]; (first | ((with_reducible first | refine hx_ ?_ | refine hy_ ?_); clear hx_ hy_ x_ y_) | ((with_reducible first | refine bI_split (fun h_ => hx_ ?_) (fun h_ => hy_ ?_) | refine bI_split (fun h_ => hy_ ?_) (fun h_ => hx_ ?_)) <;> (clear hx_ hy_ x_ y_; try rw [h_])))) | (with_reducible first | refine callv_pure (awake11_c _) ?_ | refine vcalld_pure (awake11_c _) ?_) | ((with_reducible first | refine hK_ _ _ ?_ | refine hK_ _ _ _ _ (Weak.refl _ _) ?_); clear hK_ K_) | clear hK_ K_)
    exact ⟨rfl, by (repeat' (first | exact HExt.refl _ | assumption | refine HExt.push ?_ _ | (refine HExt.set ?_ (by (try simp only [Heap.push_n, Heap.set_n]); omega) _)))⟩
  have f20 : ((l.length : Int) > 20) = False := eq_false (by omega)
  have hx := may_some l
  have hlen := some_len l
  have hsome := fun H => some_c l (by omega) H
  generalize someS l = x at hx hlen hsome
  have hxl : x.length < 100000 := by omega
  obtain ⟨n0, rfl⟩ : ∃ n : Nat, b0 = n := ⟨b0.toNat, by omega⟩
  obtain ⟨n1, rfl⟩ : ∃ n : Nat, b1 = n := ⟨b1.toNat, by omega⟩
  obtain ⟨n2, rfl⟩ : ∃ n : Nat, b2 = n := ⟨b2.toNat, by omega⟩
  obtain ⟨n3, rfl⟩ : ∃ n : Nat, b3 = n := ⟨b3.toNat, by omega⟩
  -- the numbers
  have tm : ∀ (n m : Nat), ((n : Int).tmod (m : Int)) = ((n % m : Nat) : Int) := fun n m => by rw [Int.tmod_eq_emod_of_nonneg (Int.natCast_nonneg _)]; exact (Int.natCast_emod _ _).symm
  have m40 : n1 % 40 < 40 := Nat.mod_lt _ (by omega)
  have m60 : n0 % 60 < 60 := Nat.mod_lt _ (by omega)
  have m8 : n3 % 8 < 8 := Nat.mod_lt _ (by omega)
  obtain ⟨N, hN⟩ : ∃ N, N = 2 + n1 % 40 := ⟨_, rfl⟩
  have mk : n2 % (N - 1) < N - 1 := Nat.mod_lt _ (by omega)
  obtain ⟨K, hK⟩ : ∃ K, K = 1 + n2 % (N - 1) := ⟨_, rfl⟩
  obtain ⟨i, hi⟩ : ∃ i, i = 16 + n0 % 60 := ⟨_, rfl⟩
  have e40 : (n1 : Int).tmod 40 = ((n1 % 40 : Nat) : Int) := tm n1 40
  have e60 : (n0 : Int).tmod 60 = ((n0 % 60 : Nat) : Int) := tm n0 60
  have e8 : (n3 : Int).tmod 8 = ((n3 % 8 : Nat) : Int) := tm n3 8
  have eK : (n2 : Int).tmod ((N - 1 : Nat) : Int) = ((n2 % (N - 1) : Nat) : Int) := tm n2 (N - 1)
  have w1 : IntKind.i64.wrap ((n1 % 40 : Nat) : Int) = ((n1 % 40 : Nat) : Int) := wrap_id (by omega) (by omega)
  have w2 : IntKind.i64.wrap (2 + ((n1 % 40 : Nat) : Int)) = (N : Int) := by rw [wrap_id] <;> omega
  have w3 : IntKind.i64.wrap (n2 : Int) = (n2 : Int) := wrap_id (by omega) (by omega)
  have w4 : IntKind.i64.wrap ((N : Int) - 1) = ((N - 1 : Nat) : Int) := by rw [wrap_id] <;> omega
  have w5 : IntKind.i64.wrap (1 + ((n2 % (N - 1) : Nat) : Int)) = (K : Int) := by rw [wrap_id] <;> omega
  have w6 : IntKind.i64.wrap ((n0 % 60 : Nat) : Int) = ((n0 % 60 : Nat) : Int) := wrap_id (by omega) (by omega)
  have w7 : IntKind.i64.wrap (16 + ((n0 % 60 : Nat) : Int)) = (i : Int) := by rw [wrap_id] <;> omega
  have w8 : IntKind.i64.wrap (4096 * (i : Int)) = 4096 * (i : Int) := wrap_id (by omega) (by omega)
  have w9 : IntKind.i64.wrap ((n3 % 8 : Nat) : Int) = ((n3 % 8 : Nat) : Int) := wrap_id (by omega) (by omega)
  have w10 : IntKind.i64.wrap (4096 * (N : Int)) = 4096 * (((i + N) - i : Nat) : Int) := by rw [wrap_id] <;> omega
  have w11 : IntKind.i64.wrap (4096 * (K : Int)) = 4096 * (((i + K) - i : Nat) : Int) := by rw [wrap_id] <;> omega
  have w12 : IntKind.i64.wrap (4096 * (i : Int) + 4096 * (((i + K) - i : Nat) : Int)) = 4096 * ((i + K : Nat) : Int) := by rw [wrap_id] <;> omega
  have w13 : IntKind.i64.wrap ((N : Int) - (K : Int)) = ((N - K : Nat) : Int) := by rw [wrap_id] <;> omega
  have w14 : IntKind.i64.wrap (4096 * ((N - K : Nat) : Int)) = 4096 * (((i + N) - (i + K) : Nat) : Int) := by rw [wrap_id] <;> omega
  have nz : (((N - 1 : Nat) : Int) = 0) = False := eq_false (by omega)
  have hh := halves hx (i := i) (m := i + K) (j := i + N) (p := ((n3 % 8 : Nat) : Int)) (by omega) (by omega) (by omega) (by omega) (by omega) (by omega)
  have P1 := fun H => protect_c x hxl (callP (4096 * (i : Int)) (4096 * (((i + N) - i : Nat) : Int)) ((n3 % 8 : Nat) : Int)) H
  have P2 := fun H => protect_c x hxl (callP (4096 * (i : Int)) (4096 * (((i + K) - i : Nat) : Int)) ((n3 % 8 : Nat) : Int)) H
  have plen : ∀ c, (protectS x c).1.length ≤ 24 := fun c => by
    by_cases h0 : (protectS x c).2.s = 0
    · obtain ⟨_, i, j, _, _, _, _, _, _, _, _, _, _, h24, e⟩ := protect_ok h0
      rw [e]; exact h24
    · rw [protect_no h0]; exact hlen
  have l1 := plen (callP (4096 * (i : Int)) (4096 * (((i + N) - i : Nat) : Int)) ((n3 % 8 : Nat) : Int))
  have l2 := plen (callP (4096 * (i : Int)) (4096 * (((i + K) - i : Nat) : Int)) ((n3 % 8 : Nat) : Int))
  simp only at hh
  generalize protectS x (callP (4096 * (i : Int)) (4096 * (((i + N) - i : Nat) : Int)) ((n3 % 8 : Nat) : Int)) = Y at hh P1 l1
  generalize protectS x (callP (4096 * (i : Int)) (4096 * (((i + K) - i : Nat) : Int)) ((n3 % 8 : Nat) : Int)) = Z at hh P2 l2
  have P3 := fun H => protect_c Z.1 (by omega) (callP (4096 * ((i + K : Nat) : Int)) (4096 * (((i + N) - (i + K) : Nat) : Int)) ((n3 % 8 : Nat) : Int)) H
  have l3 : (protectS Z.1 (callP (4096 * ((i + K : Nat) : Int)) (4096 * (((i + N) - (i + K) : Nat) : Int)) ((n3 % 8 : Nat) : Int))).1.length ≤ 24 := by
    by_cases h0 : (protectS Z.1 (callP (4096 * ((i + K : Nat) : Int)) (4096 * (((i + N) - (i + K) : Nat) : Int)) ((n3 % 8 : Nat) : Int))).2.s = 0
    · obtain ⟨_, i, j, _, _, _, _, _, _, _, _, _, _, h24, e⟩ := protect_ok h0
      rw [e]; exact h24
    · rw [protect_no h0]; exact l2
  generalize protectS Z.1 (callP (4096 * ((i + K : Nat) : Int)) (4096 * (((i + N) - (i + K) : Nat) : Int)) ((n3 % 8 : Nat) : Int)) = W at hh P3 l3
  have S1 := fun H => same_c Y.1 W.1 (by omega) (by omega) H
  simp only [callP] at P1 P2 P3
  repeat' (first | (with_reducible first | refine vops_ng ?_ | refine vops_nil' ?_ | refine pthen_ni ?_ | refine pthen_ri ?_ | refine pthen_ei ?_ | refine pblock_ni ?_ | refine pblock_ri ?_ | refine pblock_ei ?_ | refine pblock_en rfl ?_ | refine vc_skip_i ?_ | refine vc_ret_i ?_ | refine vc_exit_i ?_ | refine vc_block_i ?_ | refine vd_ng ?_ | refine vd_nil' ?_ | refine vc_seq' fun K_ hK_ => ?_ | refine vc_region' fun K_ hK_ => ?_ | refine vc_draw' (by kernel_rfl) fun K_ hK_ => ?_) | refine vops_gf rfl ?_ | refine vops_gt rfl ?_ | refine vd_gf rfl ?_ | refine vd_gt rfl ?_ | ((with_reducible first | refine vx_op' rfl fun k_ hk_ => ?_ | refine vx_call' fun k_ hk_ => ?_ | refine pret_r' fun k_ hk_ => ?_ | refine pret_n' fun k_ hk_ => ?_ | refine vdx_0 rfl fun k_ hk_ => ?_ | refine vdx_call fun k_ hk_ => ?_ | refine vdx_1 rfl rfl fun k_ hk_ => ?_ | refine vdx_2 rfl fun k_ hk_ => ?_); simp only [go_sem, reduceIte, Nat.reduceEqDiff, Nat.reduceLT, Nat.reduceLeDiff, Nat.reduceAdd, Nat.reduceMul, Nat.reduceSub, Nat.reduceBEq, reduceCtorEq, Int.reduceEq, Int.reduceNe, Int.reduceLT, Int.reduceLE, Int.reduceGT, Int.reduceGE, Int.reduceAdd, Int.reduceSub, Int.reduceMul, Int.reduceNeg, Int.reduceToNat, reduceDIte, f20, q0, q1, q2, q3, e40, e60, e8, eK, w1, w2, w3, w4, w5, w6, w7, w8, w9, w10, w11, w12, w13, w14, nz]; (with_reducible first | refine hk_ _ _ ?_ | refine hk_ _ ?_ | refine hk_ _ _ (by (first | exact HExtR.refl _ | (refine HExtR.push ?_; first | rfl | simp only [go_sem, f20, q0, q1, q2, q3, e40, e60, e8, eK, w1, w2, w3, w4, w5, w6, w7, w8, w9, w10, w11, w12, w13, w14, nz]))) ?_); clear hk_ k_) | ((with_reducible first | refine vops_g' fun x_ y_ hx_ hy_ => ?_ | refine vd_g' fun x_ y_ hx_ hy_ => ?_ | refine vc_cond'' fun x_ y_ hx_ hy_ => ?_); simp only [go_sem, reduceIte, Nat.reduceEqDiff, Nat.reduceLT, Nat.reduceLeDiff, Nat.reduceAdd, Nat.reduceMul, Nat.reduceSub, Nat.reduceBEq, reduceCtorEq, Int.reduceEq, Int.reduceNe, Int.reduceLT, Int.reduceLE, Int.reduceGT, Int.reduceGE, Int.reduceAdd, Int.reduceSub, Int.reduceMul, Int.reduceNeg, Int.reduceToNat, reduceDIte, f20, q0, q1, q2, q3, e40, e60, e8, eK, w1, w2, w3, w4, w5, w6, w7, w8, w9, w10, w11, w12, w13, w14, nz]; (first | ((with_reducible first | refine hx_ ?_ | refine hy_ ?_); clear hx_ hy_ x_ y_) | ((with_reducible first | refine bI_split (fun h_ => hx_ ?_) (fun h_ => hy_ ?_) | refine bI_split (fun h_ => hy_ ?_) (fun h_ => hx_ ?_)) <;> (clear hx_ hy_ x_ y_; try rw [h_])))) | (with_reducible first | refine callv_pure (awake11_c _) ?_ | refine callv_pure (hsome _) ?_ | refine callv_pure (P1 _) ?_ | refine callv_pure (P2 _) ?_ | refine callv_pure (P3 _) ?_ | refine callv_pure (S1 _) ?_ | refine vcalld_pure (awake11_c _) ?_ | refine vcalld_pure (hsome _) ?_ | refine vcalld_pure (P1 _) ?_ | refine vcalld_pure (P2 _) ?_ | refine vcalld_pure (P3 _) ?_ | refine vcalld_pure (S1 _) ?_) | ((with_reducible first | refine hK_ _ _ ?_ | refine hK_ _ _ _ _ (Weak.refl _ _) ?_); clear hK_ K_) | clear hK_ K_)
  all_goals refine ⟨?_, by (repeat' (first | exact HExt.refl _ | assumption | refine HExt.push ?_ _ | (refine HExt.set ?_ (by (try simp only [Heap.push_n, Heap.set_n]); omega) _)))⟩
  all_goals first
    | rfl
    | (simp_all; done)
    | (simp_all; omega)
end Go.Abs
