/-
  MappingUnmaps: for every input the law returns true, and each argument reads as it did: no condition.
-/
import Derived.Test.YtcgogenmikakkaaB10
import Derived.Test.YtcgogenmikakkaaB6
import Derived.Test.YtcgogenmikakkaaB11
import Derived.Test.YtcgogenmikakkaaRows
import Derived.WalkKit
import Derived.ProofKit
import Derived.OpenShut
import Derived.ChangeOld
import Derived.Below
import Derived.SizedLaws
/-
  MappingUnmaps.
-/
namespace Go.Abs
set_option linter.unusedVariables false
set_option linter.unusedSimpArgs false
open Go.Proofs
set_option maxHeartbeats 8000000
theorem law_MappingUnmaps (l : List Ar) (hl : ∀ a ∈ l, a.ok) (c : Ca) (hc : c.ok) (H : Heap) : ACalls Try.prog 9 [.s (LV Ar.c l), .agg c.c] H (.s (Bo true)) H := by
  refine acalls_pure te_ok mix Try.func9 rfl Try.call9 (by kernel_rfl) (by kernel_rfl) rfl rfl ?_; simp only [Try.results9]
  by_cases h30 : l.length > 30
  · have f30 : ((l.length : Int) > 30) = True := eq_true (by omega)
    repeat' (first | refine st ?_ | refine pblock_en rfl ?_ | (refine ss ?_; intro K_ hK_) | refine vops_gf rfl ?_ | refine vops_gt rfl ?_ | (refine sk ?_; intro k_ hk_; simp only [go_sem, simprocAttr, f30]; (with_reducible first | refine hk_ _ _ ?_ | refine hk_ _ ?_); clear hk_ k_) | ((first | refine sg ?_ | refine sc ?_); intro x_ y_ hx_ hy_; simp only [go_sem, simprocAttr, f30]; ((first | (with_reducible first | refine hx_ ?_ | refine hy_ ?_) | (with_reducible first | refine bI_split (fun h_ => hx_ ?_) (fun h_ => hy_ ?_) | refine bI_split (fun h_ => hy_ ?_) (fun h_ => hx_ ?_)) <;> try rw [h_]) <;> clear hx_ hy_ x_ y_)) | (with_reducible first | refine callv_pure (awake10_c _) ?_) | ((with_reducible first | refine hK_ _ _ ?_ | refine hK_ _ _ _ _ (Weak.refl _ _) ?_); clear hK_ K_) | clear hK_ K_)
    exact ⟨rfl, hxt⟩
  have f30 : ((l.length : Int) > 30) = False := eq_false (by omega)
  have hx := may_some l
  have hlen := some_len l
  have hsome := fun H => some_c l (by omega) H
  generalize someS l = x at hx hlen hsome
  have hxl : x.length < 100000 := by omega
  have hcf : c.f < 9223372036854775808 := hc.2.2.2.2.2.2.1.2
  have M1 := fun H => unmap_c x hxl c H
  have R1 := fun H => runmap_c x hxl (right_formed (may_right hx).1) c H
  have hml := unmap_len x c
  rw [← unmap_eq hx c] at R1
  generalize unmapS x c = r at M1 R1 hml
  repeat' (first | refine st ?_ | refine pblock_en rfl ?_ | (refine ss ?_; intro K_ hK_) | refine vops_gf rfl ?_ | refine vops_gt rfl ?_ | (refine sk ?_; intro k_ hk_; simp only [go_sem, simprocAttr, f30]; (with_reducible first | refine hk_ _ _ ?_ | refine hk_ _ ?_); clear hk_ k_) | ((first | refine sg ?_ | refine sc ?_); intro x_ y_ hx_ hy_; simp only [go_sem, simprocAttr, f30]; ((first | (with_reducible first | refine hx_ ?_ | refine hy_ ?_) | (with_reducible first | refine bI_split (fun h_ => hx_ ?_) (fun h_ => hy_ ?_) | refine bI_split (fun h_ => hy_ ?_) (fun h_ => hx_ ?_)) <;> try rw [h_]) <;> clear hx_ hy_ x_ y_)) | (with_reducible first | refine callv_pure (awake10_c _) ?_ | refine callv_pure (hsome _) ?_ | refine callv_pure (M1 _) ?_ | refine callv_pure (R1 _) ?_ | refine callv_pure (same_c r.1 r.1 (by omega) (by omega) _) ?_) | ((with_reducible first | refine hK_ _ _ ?_ | refine hK_ _ _ _ _ (Weak.refl _ _) ?_); clear hK_ K_) | clear hK_ K_)
  exact ⟨rfl, hxt⟩
end Go.Abs
/-
  MappingUnmaps: for every input the law returns true, and each argument reads as it did: no condition.
-/
namespace Go.Proofs.Ytcgogenmikakkaa.mappingUnmaps
set_option linter.unusedVariables false
set_option linter.unusedSimpArgs false
open Go.ChangeShapes Go.WideShapes Go.ChangeAt Go.RowKit Go.Abs
theorem own : ownKnob Try.prog.godebug = none := by kernel_rfl
theorem laidOut : laidOutB Try.prog = true := by kernel_rfl
set_option maxRecDepth 100000 in
theorem lifted (os : Os) (started : os.Started) (H : Type) (enc : TypeId × Value → H) :
    ReturnsInHanded {} Try.checked os 9 .any (Rows.mappingUnmapsSpec.pre6 enc Try.prog Try.f9 Rows.mappingUnmapsRow.domain false) (Rows.mappingUnmapsSpec.post enc Try.prog Try.f9 false true false false) := by
  refine returnsInHanded_of_change_sized (C := Try.checked) own started (by kernel_rfl) Try.func9
    (ChangeSpec.witness6 (enc := enc) (C := Try.checked) false ⟨#[], #[.slice none 0 0, .agg #[.int .i64 0, .int .i64 0, .int .i64 0, .int .i64 0, .int .i64 0, .int .i64 0, .int .i64 0, .int .i64 0, .int .i64 0]], []⟩ 8 (by kernel_rfl) (by kernel_rfl) (by kernel_rfl) (by kernel_rfl)) ?_
  intro W base args ds gs before hval0 hW hcnd hsz0 _
  have hval : ∀ (j : Nat) t v, Try.f9.params[j]? = some t → args[j]? = some v → Value.okWide Try.prog W .any base t v := hval0
  have hW' := hW
  obtain ⟨p, q, hA0, hV, rfl, hfz, hnd⟩ := hW
  have hA : DataW.TrodAll enc Try.prog W 0 (fun _ => true) true Try.f9.params.toList args.toList ds p := hA0
  rw [Try.params9] at hA hval
  obtain ⟨v0, vs0, d0, ds0, p0, q0, hargs, rfl, rfl, h0, r0⟩ := trodAll_cons hA
  obtain ⟨v1, vs1, d1, ds1, p1, q1, rfl, rfl, rfl, h1, r1⟩ := trodAll_cons r0
  obtain ⟨rfl, rfl, rfl⟩ := trodAll_nil r1
  obtain rfl : args = #[v0, v1] := by cases args; simp_all
  obtain ⟨rfl, rfl⟩ := trodVars_none hV
  have lt0 : ∀ x ∈ p0, x.block < W.heap.size := by obtain ⟨m, hm⟩ := h0; exact DataW.trod_lt m _ _ _ hm
  obtain ⟨a0, c0, o0⟩ := open_areas (hval 0 22 v0 rfl rfl) h0
  have lt1 : ∀ x ∈ p1, x.block < W.heap.size := by obtain ⟨m, hm⟩ := h1; exact DataW.trod_lt m _ _ _ hm
  obtain ⟨a1, c1, o1⟩ := open_call (hval 1 34 v1 rfl rfl) h1
  clear hA0 hval0 hsz0
  refine (calls0 (law_MappingUnmaps a0 o0 a1 o1 heap0) (cargs := [v0, v1]) ⟨c0, c1, trivial⟩).mono fun e W' ⟨he, bel⟩ => ?_
  subst he
  exact ⟨_, rfl, _, _, _, [], _, [], hW', trodAll_mk1 (shut_bool Try.underlying4 _), (trodAll_cons_mk (Below.trod laidOut (by kernel_rfl) (of_decide_eq_true (by kernel_rfl)) h0 bel lt0) (trodAll_cons_mk (Below.trod laidOut (by kernel_rfl) (of_decide_eq_true (by kernel_rfl)) h1 bel lt1) trodAll_mk0)), rfl, bel.frame _, fun h => by cases h⟩
theorem over : Rows.mappingUnmapsRow.holds Try.pinned (OpenSpec.ofChange Rows.mappingUnmapsSpec) :=
  OpenClaim.holds_of_wide 9 Try.f9 rfl rfl rfl rfl rfl rfl rfl ⟨rfl, rfl, rfl, rfl, rfl⟩ rfl rfl rfl rfl rfl (by kernel_rfl) Try.func9 (by kernel_rfl)
    (of_decide_eq_true (by kernel_rfl)) (by unfold Func.isWrapper; first | (rw [if_pos (by decide +kernel)]; kernel_rfl) | (rw [if_neg (by decide +kernel)]; exact ⟨rfl, rfl⟩))
    (fun os started H enc _ => lifted os started H enc)
end Go.Proofs.Ytcgogenmikakkaa.mappingUnmaps
namespace Go.Proofs.Ytcgogenmikakkaa
/-- The row, under a short name, for the claim. -/
theorem mappingUnmaps_holds : Rows.MappingUnmapsSaid := mappingUnmaps.over
#print axioms mappingUnmaps_holds
end Go.Proofs.Ytcgogenmikakkaa
