/-
  MappingPlaces: for every input the law returns true, and each argument reads as it did: no condition.
-/
import Derived.Test.YtcgogenmikakkaaB10
import Derived.Test.YtcgogenmikakkaaB6
import Derived.Test.YtcgogenmikakkaaB11
import Derived.Test.YtcgogenmikakkaaRows
import Derived.WalkKit
import Derived.ProofKit
import Derived.OpenShut
import Derived.ChangeOld
import Derived.Below
import Derived.SizedLaws
/-
  MappingPlaces.
-/
namespace Go.Abs
set_option linter.unusedVariables false
set_option linter.unusedSimpArgs false
open Go.Proofs
set_option maxHeartbeats 8000000
set_option maxRecDepth 8000
theorem law_MappingPlaces (l : List Ar) (hl : ∀ a ∈ l, a.ok) (b : Int × Int) (hb : ok64 b.1 ∧ ok64 b.2) (f : Int) (hf : 0 ≤ f ∧ f < 256) (H : Heap) : ACalls Try.prog 10 [.s (LV Ar.c l), .agg [I b.1, I b.2], .s (.raw (.int .u8 f))] H (.s (Bo true)) H := by
  obtain ⟨a, n⟩ := b
  refine acalls_pure te_ok mix Try.func10 rfl Try.call10 (by kernel_rfl) (by kernel_rfl) rfl rfl ?_; simp only [Try.results10]
  by_cases h30 : l.length > 30
  · have f30 : ((l.length : Int) > 30) = True := eq_true (by omega)
    repeat' (first | refine st ?_ | refine pblock_en rfl ?_ | (refine ss ?_; intro K_ hK_) | refine vops_gf rfl ?_ | refine vops_gt rfl ?_ | (refine sk ?_; intro k_ hk_; simp only [go_sem, simprocAttr, f30]; (with_reducible first | refine hk_ _ _ ?_ | refine hk_ _ ?_); clear hk_ k_) | ((first | refine sg ?_ | refine sc ?_); intro x_ y_ hx_ hy_; simp only [go_sem, simprocAttr, f30]; ((first | (with_reducible first | refine hx_ ?_ | refine hy_ ?_) | (with_reducible first | refine bI_split (fun h_ => hx_ ?_) (fun h_ => hy_ ?_) | refine bI_split (fun h_ => hy_ ?_) (fun h_ => hx_ ?_)) <;> try rw [h_]) <;> clear hx_ hy_ x_ y_)) | (with_reducible first | refine callv_pure (awake10_c _) ?_) | ((with_reducible first | refine hK_ _ _ ?_ | refine hK_ _ _ _ _ (Weak.refl _ _) ?_); clear hK_ K_) | clear hK_ K_)
    exact ⟨rfl, hxt⟩
  have f30 : ((l.length : Int) > 30) = False := eq_false (by omega)
  have hll : l.length < 100000 := by omega
  have wf : IntKind.i64.wrap f = f := wrap_id (by omega) (by omega)
  cases hm : mayS l
  · have e1 : placeS l a n f = (0, 1) := by unfold placeS; rw [if_pos hm]
    have P1 := fun H => place_c l hll a n f H
    rw [e1] at P1
    have M1 := fun H => map_c l hll ⟨0, 0, 1, 0, 0, 0, 0, 0, 0⟩ H
    have e2 : ∀ c, mapS l c = (l, ansE 1) := fun c => by unfold mapS; rw [if_pos hm]
    have U1 := fun H => unmap_c l hll ⟨0, 65536, 1, 0, 0, 0, 0, 0, 0⟩ H
    have e3 : ∀ c, unmapS l c = (l, ansE 1) := fun c => by unfold unmapS; rw [if_pos hm]
    rw [e2] at M1
    rw [e3] at U1
    simp only [ansE] at M1 U1
    have n0 : ((0 : Int) == 0) = true := rfl
    have n1 : ((1 : Int) == 1) = true := rfl
    repeat' (first | refine st ?_ | refine pblock_en rfl ?_ | (refine ss ?_; intro K_ hK_) | refine vops_gf rfl ?_ | refine vops_gt rfl ?_ | (refine sk ?_; intro k_ hk_; simp only [go_sem, simprocAttr, f30, wf, hm, n0, n1]; (with_reducible first | refine hk_ _ _ ?_ | refine hk_ _ ?_); clear hk_ k_) | ((first | refine sg ?_ | refine sc ?_); intro x_ y_ hx_ hy_; simp only [go_sem, simprocAttr, f30, wf, hm, n0, n1]; ((first | (with_reducible first | refine hx_ ?_ | refine hy_ ?_) | (with_reducible first | refine bI_split (fun h_ => hx_ ?_) (fun h_ => hy_ ?_) | refine bI_split (fun h_ => hy_ ?_) (fun h_ => hx_ ?_)) <;> try rw [h_]) <;> clear hx_ hy_ x_ y_)) | (with_reducible first | refine callv_pure (awake10_c _) ?_ | refine callv_pure (P1 _) ?_ | refine callv_pure (M1 _) ?_ | refine callv_pure (U1 _) ?_ | refine callv_pure (rmay_c l hll _) ?_ | refine callv_pure (same_c l l (by omega) (by omega) _) ?_) | ((with_reducible first | refine hK_ _ _ ?_ | refine hK_ _ _ _ _ (Weak.refl _ _) ?_); clear hK_ K_) | clear hK_ K_)
    exact ⟨rfl, hxt⟩
  have P1 := fun H => place_c l hll a n f H
  have R1 := fun H => rplace_c l hll (right_formed (may_right hm).1) a n f hf.1 (by omega) H
  rw [← place_eq hm a n f hf] at R1
  generalize placeS l a n f = r at P1 R1
  repeat' (first | refine st ?_ | refine pblock_en rfl ?_ | (refine ss ?_; intro K_ hK_) | refine vops_gf rfl ?_ | refine vops_gt rfl ?_ | (refine sk ?_; intro k_ hk_; simp only [go_sem, simprocAttr, f30, wf, hm, beq_self_eq_true]; (with_reducible first | refine hk_ _ _ ?_ | refine hk_ _ ?_); clear hk_ k_) | ((first | refine sg ?_ | refine sc ?_); intro x_ y_ hx_ hy_; simp only [go_sem, simprocAttr, f30, wf, hm, beq_self_eq_true]; ((first | (with_reducible first | refine hx_ ?_ | refine hy_ ?_) | (with_reducible first | refine bI_split (fun h_ => hx_ ?_) (fun h_ => hy_ ?_) | refine bI_split (fun h_ => hy_ ?_) (fun h_ => hx_ ?_)) <;> try rw [h_]) <;> clear hx_ hy_ x_ y_)) | (with_reducible first | refine callv_pure (awake10_c _) ?_ | refine callv_pure (P1 _) ?_ | refine callv_pure (R1 _) ?_ | refine callv_pure (rmay_c l hll _) ?_) | ((with_reducible first | refine hK_ _ _ ?_ | refine hK_ _ _ _ _ (Weak.refl _ _) ?_); clear hK_ K_) | clear hK_ K_)
  exact ⟨rfl, hxt⟩
end Go.Abs
/-
  MappingPlaces: for every input the law returns true, and each argument reads as it did: no condition.
-/
namespace Go.Proofs.Ytcgogenmikakkaa.mappingPlaces
set_option linter.unusedVariables false
set_option linter.unusedSimpArgs false
open Go.ChangeShapes Go.WideShapes Go.ChangeAt Go.RowKit Go.Abs
theorem own : ownKnob Try.prog.godebug = none := by kernel_rfl
theorem laidOut : laidOutB Try.prog = true := by kernel_rfl
set_option maxRecDepth 100000 in
theorem lifted (os : Os) (started : os.Started) (H : Type) (enc : TypeId × Value → H) :
    ReturnsInHanded {} Try.checked os 10 .any (Rows.mappingPlacesSpec.pre6 enc Try.prog Try.f10 Rows.mappingPlacesRow.domain false) (Rows.mappingPlacesSpec.post enc Try.prog Try.f10 false true false false) := by
  refine returnsInHanded_of_change_sized (C := Try.checked) own started (by kernel_rfl) Try.func10
    (ChangeSpec.witness6 (enc := enc) (C := Try.checked) false ⟨#[], #[.slice none 0 0, .agg #[.int .i64 0, .int .i64 0], .int .u8 0], []⟩ 8 (by kernel_rfl) (by kernel_rfl) (by kernel_rfl) (by kernel_rfl)) ?_
  intro W base args ds gs before hval0 hW hcnd hsz0 _
  have hval : ∀ (j : Nat) t v, Try.f10.params[j]? = some t → args[j]? = some v → Value.okWide Try.prog W .any base t v := hval0
  have hW' := hW
  obtain ⟨p, q, hA0, hV, rfl, hfz, hnd⟩ := hW
  have hA : DataW.TrodAll enc Try.prog W 0 (fun _ => true) true Try.f10.params.toList args.toList ds p := hA0
  rw [Try.params10] at hA hval
  obtain ⟨v0, vs0, d0, ds0, p0, q0, hargs, rfl, rfl, h0, r0⟩ := trodAll_cons hA
  obtain ⟨v1, vs1, d1, ds1, p1, q1, rfl, rfl, rfl, h1, r1⟩ := trodAll_cons r0
  obtain ⟨v2, vs2, d2, ds2, p2, q2, rfl, rfl, rfl, h2, r2⟩ := trodAll_cons r1
  obtain ⟨rfl, rfl, rfl⟩ := trodAll_nil r2
  obtain rfl : args = #[v0, v1, v2] := by cases args; simp_all
  obtain ⟨rfl, rfl⟩ := trodVars_none hV
  have lt0 : ∀ x ∈ p0, x.block < W.heap.size := by obtain ⟨m, hm⟩ := h0; exact DataW.trod_lt m _ _ _ hm
  obtain ⟨a0, c0, o0⟩ := open_areas (hval 0 22 v0 rfl rfl) h0
  have lt1 : ∀ x ∈ p1, x.block < W.heap.size := by obtain ⟨m, hm⟩ := h1; exact DataW.trod_lt m _ _ _ hm
  obtain ⟨a1, c1, o1⟩ := open_arr2 (hval 1 43 v1 rfl rfl) h1
  have lt2 : ∀ x ∈ p2, x.block < W.heap.size := by obtain ⟨m, hm⟩ := h2; exact DataW.trod_lt m _ _ _ hm
  obtain ⟨a2, c2, o2⟩ := open_u8 (hval 2 5 v2 rfl rfl) h2
  clear hA0 hval0 hsz0
  refine (calls0 (law_MappingPlaces a0 o0 a1 o1 a2 o2 heap0) (cargs := [v0, v1, v2]) ⟨c0, c1, c2, trivial⟩).mono fun e W' ⟨he, bel⟩ => ?_
  subst he
  exact ⟨_, rfl, _, _, _, [], _, [], hW', trodAll_mk1 (shut_bool Try.underlying4 _), (trodAll_cons_mk (Below.trod laidOut (by kernel_rfl) (of_decide_eq_true (by kernel_rfl)) h0 bel lt0) (trodAll_cons_mk (Below.trod laidOut (by kernel_rfl) (of_decide_eq_true (by kernel_rfl)) h1 bel lt1) (trodAll_cons_mk (Below.trod laidOut (by kernel_rfl) (of_decide_eq_true (by kernel_rfl)) h2 bel lt2) trodAll_mk0))), rfl, bel.frame _, fun h => by cases h⟩
theorem over : Rows.mappingPlacesRow.holds Try.pinned (OpenSpec.ofChange Rows.mappingPlacesSpec) :=
  OpenClaim.holds_of_wide 10 Try.f10 rfl rfl rfl rfl rfl rfl rfl ⟨rfl, rfl, rfl, rfl, rfl⟩ rfl rfl rfl rfl rfl (by kernel_rfl) Try.func10 (by kernel_rfl)
    (of_decide_eq_true (by kernel_rfl)) (by unfold Func.isWrapper; first | (rw [if_pos (by decide +kernel)]; kernel_rfl) | (rw [if_neg (by decide +kernel)]; exact ⟨rfl, rfl⟩))
    (fun os started H enc _ => lifted os started H enc)
end Go.Proofs.Ytcgogenmikakkaa.mappingPlaces
namespace Go.Proofs.Ytcgogenmikakkaa
/-- The row, under a short name, for the claim. -/
theorem mappingPlaces_holds : Rows.MappingPlacesSaid := mappingPlaces.over
#print axioms mappingPlaces_holds
end Go.Proofs.Ytcgogenmikakkaa
