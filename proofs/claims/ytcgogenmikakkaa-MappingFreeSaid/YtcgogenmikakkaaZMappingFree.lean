/-
  MappingFree: for every input the law returns true, and each argument reads as it did: no condition.
-/
import Derived.Test.YtcgogenmikakkaaB10
import Derived.Test.YtcgogenmikakkaaB6
import Derived.Test.YtcgogenmikakkaaB11
import Derived.Test.YtcgogenmikakkaaRows
import Derived.WalkKit
import Derived.ProofKit
import Derived.OpenShut
import Derived.ChangeOld
import Derived.Below
import Derived.SizedLaws
/-
  MappingFree.
-/
namespace Go.Abs
set_option linter.unusedVariables false
set_option linter.unusedSimpArgs false
open Go.Proofs
set_option maxHeartbeats 8000000
set_option maxRecDepth 8000
theorem law_MappingFree (l : List Ar) (hl : ∀ a ∈ l, a.ok) (c : Ca) (hc : c.ok) (H : Heap) : ACalls Try.prog 11 [.s (LV Ar.c l), .agg c.c] H (.s (Bo true)) H := by
  refine acalls_pure te_ok mix Try.func11 rfl Try.call11 (by kernel_rfl) (by kernel_rfl) rfl rfl ?_; simp only [Try.results11]
  by_cases h30 : l.length > 30
  · have f30 : ((l.length : Int) > 30) = True := eq_true (by omega)
    repeat' (first | refine st ?_ | refine pblock_en rfl ?_ | (refine ss ?_; intro K_ hK_) | refine vops_gf rfl ?_ | refine vops_gt rfl ?_ | (refine sk ?_; intro k_ hk_; simp only [go_sem, simprocAttr, f30]; (with_reducible first | refine hk_ _ _ ?_ | refine hk_ _ ?_); clear hk_ k_) | ((first | refine sg ?_ | refine sc ?_); intro x_ y_ hx_ hy_; simp only [go_sem, simprocAttr, f30]; ((first | (with_reducible first | refine hx_ ?_ | refine hy_ ?_) | (with_reducible first | refine bI_split (fun h_ => hx_ ?_) (fun h_ => hy_ ?_) | refine bI_split (fun h_ => hy_ ?_) (fun h_ => hx_ ?_)) <;> try rw [h_]) <;> clear hx_ hy_ x_ y_)) | (with_reducible first | refine callv_pure (awake10_c _) ?_) | ((with_reducible first | refine hK_ _ _ ?_ | refine hK_ _ _ _ _ (Weak.refl _ _) ?_); clear hK_ K_) | clear hK_ K_)
    exact ⟨rfl, hxt⟩
  have f30 : ((l.length : Int) > 30) = False := eq_false (by omega)
  have hx := may_some l
  have hlen := some_len l
  have hsome := fun H => some_c l (by omega) H
  generalize someS l = x at hx hlen hsome
  have hxl : x.length < 100000 := by omega
  have hcf : c.f < 9223372036854775808 := hc.2.2.2.2.2.2.1.2
  have M1 := fun H => map_c x hxl c H
  have hml := map_len x c
  by_cases h0 : (mapS x c).2.s = 0
  case neg =>
    generalize mapS x c = r at M1 hml h0
    repeat' (first | refine st ?_ | refine pblock_en rfl ?_ | (refine ss ?_; intro K_ hK_) | refine vops_gf rfl ?_ | refine vops_gt rfl ?_ | (refine sk ?_; intro k_ hk_; simp only [go_sem, simprocAttr, f30, bne_t h0]; (with_reducible first | refine hk_ _ _ ?_ | refine hk_ _ ?_); clear hk_ k_) | ((first | refine sg ?_ | refine sc ?_); intro x_ y_ hx_ hy_; simp only [go_sem, simprocAttr, f30, bne_t h0]; ((first | (with_reducible first | refine hx_ ?_ | refine hy_ ?_) | (with_reducible first | refine bI_split (fun h_ => hx_ ?_) (fun h_ => hy_ ?_) | refine bI_split (fun h_ => hy_ ?_) (fun h_ => hx_ ?_)) <;> try rw [h_]) <;> clear hx_ hy_ x_ y_)) | (with_reducible first | refine callv_pure (awake10_c _) ?_ | refine callv_pure (hsome _) ?_ | refine callv_pure (M1 _) ?_) | ((with_reducible first | refine hK_ _ _ ?_ | refine hK_ _ _ _ _ (Weak.refl _ _) ?_); clear hK_ K_) | clear hK_ K_)
    exact ⟨rfl, hxt⟩
  have hok := map_ok hx hcf h0
  have hf : c.f.tmod 2 = c.f % 2 := Int.tmod_eq_emod_of_nonneg hok.1
  by_cases h1 : c.f % 2 = 1
  · clear hok
    generalize mapS x c = r at M1 hml h0
    repeat' (first | refine st ?_ | refine pblock_en rfl ?_ | (refine ss ?_; intro K_ hK_) | refine vops_gf rfl ?_ | refine vops_gt rfl ?_ | (refine sk ?_; intro k_ hk_; simp only [go_sem, simprocAttr, f30, bne_f h0, hf, beq_t h1]; (with_reducible first | refine hk_ _ _ ?_ | refine hk_ _ ?_); clear hk_ k_) | ((first | refine sg ?_ | refine sc ?_); intro x_ y_ hx_ hy_; simp only [go_sem, simprocAttr, f30, bne_f h0, hf, beq_t h1]; ((first | (with_reducible first | refine hx_ ?_ | refine hy_ ?_) | (with_reducible first | refine bI_split (fun h_ => hx_ ?_) (fun h_ => hy_ ?_) | refine bI_split (fun h_ => hy_ ?_) (fun h_ => hx_ ?_)) <;> try rw [h_]) <;> clear hx_ hy_ x_ y_)) | (with_reducible first | refine callv_pure (awake10_c _) ?_ | refine callv_pure (hsome _) ?_ | refine callv_pure (M1 _) ?_) | ((with_reducible first | refine hK_ _ _ ?_ | refine hK_ _ _ _ _ (Weak.refl _ _) ?_); clear hK_ K_) | clear hK_ K_)
    exact ⟨rfl, hxt⟩
  clear hok
  obtain ⟨u1, u2, u3, u4, u5, u6, u7⟩ := map_unmap hx hcf h0 h1
  have hs := ofS_len x
  have t1 := sp_take hs
  have t2 := sp_len hs
  have t3 := sp_len pz_len
  have t4 : setAll (FL Pg.c pz) 0 (FL Pg.c (ofS x)) = FL Pg.c (ofS x) := setAll_full (by rw [t2, t3])
  have hz := bigz_c
  have O1 := fun H => of_c x hxl (right_formed (may_right hx).1) H
  have U1 := fun H => unmap_c (mapS x c).1 (by omega) ⟨0, (mapS x c).2.e, c.l, 0, 0, 0, 0, 0, 0⟩ H
  have S1 := fun H => rsome_c (ofS x) hs (mapS x c).2.e ((mapS x c).2.e + 4096 * ((c.l + 4095) / 4096)) H
  rw [u3] at U1
  rw [u1] at S1
  clear u3 u1 u2
  generalize mapS x c = r at M1 U1 S1 hml h0 u4 u5
  generalize ofS x = s at hs t1 t2 t4 O1 S1
  simp only [ansV] at U1
  have w1 : IntKind.i64.wrap ((IntKind.i64.wrap (c.l + 4095)).tdiv 4096) = (c.l + 4095) / 4096 := by
    rw [wrap_id (n := c.l + 4095) (by omega) (by omega), Int.tdiv_eq_ediv_of_nonneg (by omega), wrap_id (by omega) (by omega)]
  have w2 : IntKind.i64.wrap (4096 * ((c.l + 4095) / 4096)) = 4096 * ((c.l + 4095) / 4096) := wrap_id (by omega) (by omega)
  have w3 : IntKind.i64.wrap (r.2.e + 4096 * ((c.l + 4095) / 4096)) = r.2.e + 4096 * ((c.l + 4095) / 4096) := wrap_id (by omega) (by omega)
  have n0 : ((0 : Int) == 0) = true := rfl
  repeat' (first | refine st ?_ | refine pblock_en rfl ?_ | (refine ss ?_; intro K_ hK_) | refine vops_gf rfl ?_ | refine vops_gt rfl ?_ | (refine sk ?_; intro k_ hk_; simp only [go_sem, simprocAttr, f30, bne_f h0, hf, beq_f h1, hz, t1, t2, t3, t4, w1, w2, w3, n0]; (with_reducible first | refine hk_ _ _ ?_ | refine hk_ _ ?_); clear hk_ k_) | ((first | refine sg ?_ | refine sc ?_); intro x_ y_ hx_ hy_; simp only [go_sem, simprocAttr, f30, bne_f h0, hf, beq_f h1, hz, t1, t2, t3, t4, w1, w2, w3, n0]; ((first | (with_reducible first | refine hx_ ?_ | refine hy_ ?_) | (with_reducible first | refine bI_split (fun h_ => hx_ ?_) (fun h_ => hy_ ?_) | refine bI_split (fun h_ => hy_ ?_) (fun h_ => hx_ ?_)) <;> try rw [h_]) <;> clear hx_ hy_ x_ y_)) | (with_reducible first | refine callv_pure (awake10_c _) ?_ | refine callv_pure (hsome _) ?_ | refine callv_pure (M1 _) ?_ | refine callv_pure (O1 _) ?_ | refine callv_pure (S1 _) ?_ | refine callv_pure (U1 _) ?_ | refine callv_pure (same_c x x (by omega) (by omega) _) ?_) | ((with_reducible first | refine hK_ _ _ ?_ | refine hK_ _ _ _ _ (Weak.refl _ _) ?_); clear hK_ K_) | clear hK_ K_)
  exact ⟨rfl, hxt⟩
end Go.Abs
/-
  MappingFree: for every input the law returns true, and each argument reads as it did: no condition.
-/
namespace Go.Proofs.Ytcgogenmikakkaa.mappingFree
set_option linter.unusedVariables false
set_option linter.unusedSimpArgs false
open Go.ChangeShapes Go.WideShapes Go.ChangeAt Go.RowKit Go.Abs
theorem own : ownKnob Try.prog.godebug = none := by kernel_rfl
theorem laidOut : laidOutB Try.prog = true := by kernel_rfl
set_option maxRecDepth 100000 in
theorem lifted (os : Os) (started : os.Started) (H : Type) (enc : TypeId × Value → H) :
    ReturnsInHanded {} Try.checked os 11 .any (Rows.mappingFreeSpec.pre6 enc Try.prog Try.f11 Rows.mappingFreeRow.domain false) (Rows.mappingFreeSpec.post enc Try.prog Try.f11 false true false false) := by
  refine returnsInHanded_of_change_sized (C := Try.checked) own started (by kernel_rfl) Try.func11
    (ChangeSpec.witness6 (enc := enc) (C := Try.checked) false ⟨#[], #[.slice none 0 0, .agg #[.int .i64 0, .int .i64 0, .int .i64 0, .int .i64 0, .int .i64 0, .int .i64 0, .int .i64 0, .int .i64 0, .int .i64 0]], []⟩ 8 (by kernel_rfl) (by kernel_rfl) (by kernel_rfl) (by kernel_rfl)) ?_
  intro W base args ds gs before hval0 hW hcnd hsz0 _
  have hval : ∀ (j : Nat) t v, Try.f11.params[j]? = some t → args[j]? = some v → Value.okWide Try.prog W .any base t v := hval0
  have hW' := hW
  obtain ⟨p, q, hA0, hV, rfl, hfz, hnd⟩ := hW
  have hA : DataW.TrodAll enc Try.prog W 0 (fun _ => true) true Try.f11.params.toList args.toList ds p := hA0
  rw [Try.params11] at hA hval
  obtain ⟨v0, vs0, d0, ds0, p0, q0, hargs, rfl, rfl, h0, r0⟩ := trodAll_cons hA
  obtain ⟨v1, vs1, d1, ds1, p1, q1, rfl, rfl, rfl, h1, r1⟩ := trodAll_cons r0
  obtain ⟨rfl, rfl, rfl⟩ := trodAll_nil r1
  obtain rfl : args = #[v0, v1] := by cases args; simp_all
  obtain ⟨rfl, rfl⟩ := trodVars_none hV
  have lt0 : ∀ x ∈ p0, x.block < W.heap.size := by obtain ⟨m, hm⟩ := h0; exact DataW.trod_lt m _ _ _ hm
  obtain ⟨a0, c0, o0⟩ := open_areas (hval 0 22 v0 rfl rfl) h0
  have lt1 : ∀ x ∈ p1, x.block < W.heap.size := by obtain ⟨m, hm⟩ := h1; exact DataW.trod_lt m _ _ _ hm
  obtain ⟨a1, c1, o1⟩ := open_call (hval 1 34 v1 rfl rfl) h1
  clear hA0 hval0 hsz0
  refine (calls0 (law_MappingFree a0 o0 a1 o1 heap0) (cargs := [v0, v1]) ⟨c0, c1, trivial⟩).mono fun e W' ⟨he, bel⟩ => ?_
  subst he
  exact ⟨_, rfl, _, _, _, [], _, [], hW', trodAll_mk1 (shut_bool Try.underlying4 _), (trodAll_cons_mk (Below.trod laidOut (by kernel_rfl) (of_decide_eq_true (by kernel_rfl)) h0 bel lt0) (trodAll_cons_mk (Below.trod laidOut (by kernel_rfl) (of_decide_eq_true (by kernel_rfl)) h1 bel lt1) trodAll_mk0)), rfl, bel.frame _, fun h => by cases h⟩
theorem over : Rows.mappingFreeRow.holds Try.pinned (OpenSpec.ofChange Rows.mappingFreeSpec) :=
  OpenClaim.holds_of_wide 11 Try.f11 rfl rfl rfl rfl rfl rfl rfl ⟨rfl, rfl, rfl, rfl, rfl⟩ rfl rfl rfl rfl rfl (by kernel_rfl) Try.func11 (by kernel_rfl)
    (of_decide_eq_true (by kernel_rfl)) (by unfold Func.isWrapper; first | (rw [if_pos (by decide +kernel)]; kernel_rfl) | (rw [if_neg (by decide +kernel)]; exact ⟨rfl, rfl⟩))
    (fun os started H enc _ => lifted os started H enc)
end Go.Proofs.Ytcgogenmikakkaa.mappingFree
namespace Go.Proofs.Ytcgogenmikakkaa
/-- The row, under a short name, for the claim. -/
theorem mappingFree_holds : Rows.MappingFreeSaid := mappingFree.over
#print axioms mappingFree_holds
end Go.Proofs.Ytcgogenmikakkaa
