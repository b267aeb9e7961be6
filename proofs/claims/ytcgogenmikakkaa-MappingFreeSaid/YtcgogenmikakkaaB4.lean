/-
  Joined texts: L4 L5 L6 L7 L8.
-/
import Derived.Test.YtcgogenmikakkaaB3
import Derived.Test.YtcgogenmikakkaaB2
/-
  list.joined.
-/
namespace Go.Abs
set_option linter.unusedVariables false
set_option linter.unusedSimpArgs false
open Go.Proofs
set_option maxHeartbeats 4000000

theorem joined_take {l : List Ar} {i : Nat} {a : Ar} (ha : l[i]? = some a) : joinedS (l.take (i + 1)) = joinStep (joinedS (l.take i)) a := by
  rw [List.take_add_one, ha]; simp [joinedS]
theorem joinStep_len (out : List Ar) (a : Ar) : (joinStep out a).length ≤ out.length + 1 := by
  unfold joinStep
  split
  · simp
  · split <;> simp
theorem joined_len (l : List Ar) : (joinedS l).length ≤ l.length := by
  have : ∀ (l out : List Ar), (l.foldl joinStep out).length ≤ out.length + l.length := by
    intro l
    induction l with
    | nil => intro out; simp
    | cons a l ih => intro out; have := ih (joinStep out a); have := joinStep_len out a; simp; omega
  simpa [joinedS] using this l []
theorem joinStep_nil (a : Ar) : joinStep [] a = [a] := rfl
theorem joinStep_app (init : List Ar) (z a : Ar) : joinStep (init ++ [z]) a = match ajoin z a with | some j => init ++ [j] | none => init ++ [z] ++ [a] := by
  cases h : ajoin z a <;> simp [joinStep, h]

theorem joined_g (l : List Ar) (hl : l.length < 1000000) (H : Heap) :
    ACallsR Try.prog 64 [.s (LV Ar.c l)] H fun r H' => ∃ y, r = .s y ∧ IsG Ar.c 6 H.n H' y (joinedS l) ∧ HExt H H' := by
  refine acalls_of te_ok mix Try.func64 rfl Try.call64 (by kernel_rfl) (by kernel_rfl) rfl ?_; simp only [Try.results64]
  repeat' (first | refine st ?_ | refine pblock_en rfl ?_ | (refine ss ?_; intro K_ hK_) | refine vc_draw' (by kernel_rfl) fun K_ hK_ => ?_ | refine vops_gf rfl ?_ | refine vops_gt rfl ?_ | refine vd_gf rfl ?_ | refine vd_gt rfl ?_ | (refine sk ?_; intro k_ hk_; simp only [go_sem, simprocAttr]; (with_reducible first | refine hk_ _ _ ?_ | refine hk_ _ ?_ | refine hk_ _ _ (by (first | exact HExtR.refl _ | (refine HExtR.push ?_; first | rfl | simp only [go_sem]))) ?_); clear hk_ k_) | ((first | refine sg ?_ | refine sc ?_); intro x_ y_ hx_ hy_; simp only [go_sem, simprocAttr]; ((first | (with_reducible first | refine hx_ ?_ | refine hy_ ?_) | (with_reducible first | refine bI_split (fun h_ => hx_ ?_) (fun h_ => hy_ ?_) | refine bI_split (fun h_ => hy_ ?_) (fun h_ => hx_ ?_)) <;> try rw [h_]) <;> clear hx_ hy_ x_ y_)) | ((with_reducible first | refine hK_ _ _ ?_ | refine hK_ _ _ _ _ (Weak.refl _ _) ?_); clear hK_ K_) | clear hK_ K_)
  refine vc_range l.length (fun i σ' H' => ∃ y, σ' 9 = .s (LV Ar.c l) ∧ σ' 10 = .s (I l.length) ∧ σ' 11 = .s (I i) ∧ σ' 3 = .s y ∧ HExt H H' ∧ IsG Ar.c 6 H.n H' y (joinedS (l.take i))) ⟨_, rfl, rfl, rfl, rfl, HExt.refl _, IsG.nil⟩ ?_
  rintro i σ' H' hi' ⟨y, h9, h10, h11, h3, hx', hg⟩
  have hn' := hx'.1
  by_cases hil : i < l.length
  · have ha : l[i]? = some l[i] := List.getElem?_eq_getElem hil
    generalize l[i] = a at ha
    have g1 := FL_at ar_len ha
    have hw := joined_take ha
    have hwl : (joinedS (l.take i)).length ≤ i := Nat.le_trans (joined_len _) (by simp; omega)
    generalize joinedS (l.take i) = out at hg hw hwl
    have hsucc := wrap_succ (n := i) (by omega)
    have hlt := ilt hil
    rcases List.eq_nil_or_concat out with rfl | ⟨init, z, rfl⟩
    · rw [joinStep_nil] at hw
      rcases hg with ⟨rfl, -, -⟩ | ⟨c, rfl, hc0, hcn, hc⟩
      · repeat' (first | refine st ?_ | refine pblock_en rfl ?_ | (refine ss ?_; intro K_ hK_) | refine vc_draw' (by kernel_rfl) fun K_ hK_ => ?_ | refine vops_gf rfl ?_ | refine vops_gt rfl ?_ | refine vd_gf rfl ?_ | refine vd_gt rfl ?_ | (refine sk ?_; intro k_ hk_; simp only [go_sem, simprocAttr, h9, h10, h11, h3, hlt, g1, hsucc]; (with_reducible first | refine hk_ _ _ ?_ | refine hk_ _ ?_ | refine hk_ _ _ (by (first | exact HExtR.refl _ | (refine HExtR.push ?_; first | rfl | simp only [go_sem, h9, h10, h11, h3, hlt, g1, hsucc]))) ?_); clear hk_ k_) | ((first | refine sg ?_ | refine sc ?_); intro x_ y_ hx_ hy_; simp only [go_sem, simprocAttr, h9, h10, h11, h3, hlt, g1, hsucc]; ((first | (with_reducible first | refine hx_ ?_ | refine hy_ ?_) | (with_reducible first | refine bI_split (fun h_ => hx_ ?_) (fun h_ => hy_ ?_) | refine bI_split (fun h_ => hy_ ?_) (fun h_ => hx_ ?_)) <;> try rw [h_]) <;> clear hx_ hy_ x_ y_)) | (with_reducible first | refine callv_pure (join_c _ _ _) ?_ | refine vcalld_pure (join_c _ _ _) ?_) | ((with_reducible first | refine hK_ _ _ ?_ | refine hK_ _ _ _ _ (Weak.refl _ _) ?_); clear hK_ K_) | clear hK_ K_)
        refine ⟨hil, _, (by simp only [go_sem, simprocAttr, h9]), (by simp only [go_sem, simprocAttr, h10]), (by simp only [go_sem, simprocAttr, ]), (by (try simp only [go_sem, simprocAttr, h3]); first | done | exact rfl), hxt, ?_⟩
        rw [hw]
        exact IsGc.mk (by (try simp only [Heap.push_n, Heap.set_n]); omega) (by (try simp only [Heap.push_n, Heap.set_n]); omega) (by simp [push_m, set_m, FL_one, Nat.add_assoc]) rfl
      · simp only [List.length_nil, FL_nil] at h3 hc
        repeat' (first | refine st ?_ | refine pblock_en rfl ?_ | (refine ss ?_; intro K_ hK_) | refine vc_draw' (by kernel_rfl) fun K_ hK_ => ?_ | refine vops_gf rfl ?_ | refine vops_gt rfl ?_ | refine vd_gf rfl ?_ | refine vd_gt rfl ?_ | (refine sk ?_; intro k_ hk_; simp only [go_sem, simprocAttr, h9, h10, h11, h3, hlt, g1, hsucc, hc, nlt hcn, nlt0 hcn]; (with_reducible first | refine hk_ _ _ ?_ | refine hk_ _ ?_ | refine hk_ _ _ (by (first | exact HExtR.refl _ | (refine HExtR.push ?_; first | rfl | simp only [go_sem, h9, h10, h11, h3, hlt, g1, hsucc, hc, nlt hcn, nlt0 hcn]))) ?_); clear hk_ k_) | ((first | refine sg ?_ | refine sc ?_); intro x_ y_ hx_ hy_; simp only [go_sem, simprocAttr, h9, h10, h11, h3, hlt, g1, hsucc, hc, nlt hcn, nlt0 hcn]; ((first | (with_reducible first | refine hx_ ?_ | refine hy_ ?_) | (with_reducible first | refine bI_split (fun h_ => hx_ ?_) (fun h_ => hy_ ?_) | refine bI_split (fun h_ => hy_ ?_) (fun h_ => hx_ ?_)) <;> try rw [h_]) <;> clear hx_ hy_ x_ y_)) | (with_reducible first | refine callv_pure (join_c _ _ _) ?_ | refine vcalld_pure (join_c _ _ _) ?_) | ((with_reducible first | refine hK_ _ _ ?_ | refine hK_ _ _ _ _ (Weak.refl _ _) ?_); clear hK_ K_) | clear hK_ K_)
        refine ⟨hil, _, (by simp only [go_sem, simprocAttr, h9]), (by simp only [go_sem, simprocAttr, h10]), (by simp only [go_sem, simprocAttr, ]), (by (try simp only [go_sem, simprocAttr, h3]); first | done | exact rfl), hxt, ?_⟩
        rw [hw]
        exact IsGc.mk (by (try simp only [Heap.push_n, Heap.set_n]); omega) (by (try simp only [Heap.push_n, Heap.set_n]); omega) (by simp [push_m, set_m, FL_one, Nat.add_assoc]) rfl
    · rw [List.concat_eq_append] at hg hw hwl
      have hll : (init ++ [z]).length = init.length + 1 := by simp
      rcases hg with ⟨-, h0, -⟩ | ⟨c, rfl, hc0, hcn, hc⟩
      · simp at h0
      have hcap : (init.length + 1 + 1) * 48 ≤ 70368744177664 := by simp at hwl; omega
      have hlast : (init ++ [z])[init.length]? = some z := by simp
      have e1 := FL_at ar_len hlast
      have e2 : (FL Ar.c (init ++ [z])).length = (init.length + 1) * 6 := by rw [FL_len ar_len, hll]
      have e3 : List.take 6 (List.drop (init.length * 6) (FL Ar.c (init ++ [z]))) = z.c := by rw [e1]; rfl
      have hcl : init.length * 6 + 6 ≤ (init.length + 1) * 6 := by omega
      have hset : ∀ j : Ar, setAll (FL Ar.c (init ++ [z])) (init.length * 6) j.c = FL Ar.c (init ++ [j]) := fun j => by
        rw [FL_setAll ar_len hlast]; simp
      rw [hll] at h3
      rw [joinStep_app] at hw
      have hp := wrap_pred (n := init.length + 1) (by simp at hwl; omega) (by omega)
      simp only [Nat.add_sub_cancel] at hp
      cases hj : ajoin z a with
      | none =>
        rw [hj] at hw
        repeat' (first | refine st ?_ | refine pblock_en rfl ?_ | (refine ss ?_; intro K_ hK_) | refine vc_draw' (by kernel_rfl) fun K_ hK_ => ?_ | refine vops_gf rfl ?_ | refine vops_gt rfl ?_ | refine vd_gf rfl ?_ | refine vd_gt rfl ?_ | (refine sk ?_; intro k_ hk_; simp only [go_sem, simprocAttr, h9, h10, h11, h3, hlt, g1, hsucc, hc, nlt hcn, nlt0 hcn, e2, e3, hcl, hj, hp, ilt (i := init.length) (n := init.length + 1) (by omega), ipos (i := init.length + 1) (by omega), hll, hcap]; (with_reducible first | refine hk_ _ _ ?_ | refine hk_ _ ?_ | refine hk_ _ _ (by (first | exact HExtR.refl _ | (refine HExtR.push ?_; first | rfl | simp only [go_sem, h9, h10, h11, h3, hlt, g1, hsucc, hc, nlt hcn, nlt0 hcn, e2, e3, hcl, hj, hp, ilt (i := init.length) (n := init.length + 1) (by omega), ipos (i := init.length + 1) (by omega), hll, hcap]))) ?_); clear hk_ k_) | ((first | refine sg ?_ | refine sc ?_); intro x_ y_ hx_ hy_; simp only [go_sem, simprocAttr, h9, h10, h11, h3, hlt, g1, hsucc, hc, nlt hcn, nlt0 hcn, e2, e3, hcl, hj, hp, ilt (i := init.length) (n := init.length + 1) (by omega), ipos (i := init.length + 1) (by omega), hll, hcap]; ((first | (with_reducible first | refine hx_ ?_ | refine hy_ ?_) | (with_reducible first | refine bI_split (fun h_ => hx_ ?_) (fun h_ => hy_ ?_) | refine bI_split (fun h_ => hy_ ?_) (fun h_ => hx_ ?_)) <;> try rw [h_]) <;> clear hx_ hy_ x_ y_)) | (with_reducible first | refine callv_pure (join_c _ _ _) ?_ | refine vcalld_pure (join_c _ _ _) ?_) | ((with_reducible first | refine hK_ _ _ ?_ | refine hK_ _ _ _ _ (Weak.refl _ _) ?_); clear hK_ K_) | clear hK_ K_)
        refine ⟨hil, _, (by simp only [go_sem, simprocAttr, h9]), (by simp only [go_sem, simprocAttr, h10]), (by simp only [go_sem, simprocAttr, ]), (by (try simp only [go_sem, simprocAttr, h3]); first | done | exact rfl), hxt, ?_⟩
        rw [hw]
        exact IsGc.mk (by (try simp only [Heap.push_n, Heap.set_n]); omega) (by (try simp only [Heap.push_n, Heap.set_n]); omega) (by simp [push_m, set_m, FL_app, FL_cons, FL_nil, Nat.add_assoc]) (by simp)
      | some j =>
        rw [hj] at hw
        repeat' (first | refine st ?_ | refine pblock_en rfl ?_ | (refine ss ?_; intro K_ hK_) | refine vc_draw' (by kernel_rfl) fun K_ hK_ => ?_ | refine vops_gf rfl ?_ | refine vops_gt rfl ?_ | refine vd_gf rfl ?_ | refine vd_gt rfl ?_ | (refine sk ?_; intro k_ hk_; simp only [go_sem, simprocAttr, h9, h10, h11, h3, hlt, g1, hsucc, hc, nlt hcn, nlt0 hcn, e2, e3, hcl, hj, hp, ilt (i := init.length) (n := init.length + 1) (by omega), ipos (i := init.length + 1) (by omega), hll, hcap, hset]; (with_reducible first | refine hk_ _ _ ?_ | refine hk_ _ ?_ | refine hk_ _ _ (by (first | exact HExtR.refl _ | (refine HExtR.push ?_; first | rfl | simp only [go_sem, h9, h10, h11, h3, hlt, g1, hsucc, hc, nlt hcn, nlt0 hcn, e2, e3, hcl, hj, hp, ilt (i := init.length) (n := init.length + 1) (by omega), ipos (i := init.length + 1) (by omega), hll, hcap, hset]))) ?_); clear hk_ k_) | ((first | refine sg ?_ | refine sc ?_); intro x_ y_ hx_ hy_; simp only [go_sem, simprocAttr, h9, h10, h11, h3, hlt, g1, hsucc, hc, nlt hcn, nlt0 hcn, e2, e3, hcl, hj, hp, ilt (i := init.length) (n := init.length + 1) (by omega), ipos (i := init.length + 1) (by omega), hll, hcap, hset]; ((first | (with_reducible first | refine hx_ ?_ | refine hy_ ?_) | (with_reducible first | refine bI_split (fun h_ => hx_ ?_) (fun h_ => hy_ ?_) | refine bI_split (fun h_ => hy_ ?_) (fun h_ => hx_ ?_)) <;> try rw [h_]) <;> clear hx_ hy_ x_ y_)) | (with_reducible first | refine callv_pure (join_c _ _ _) ?_ | refine vcalld_pure (join_c _ _ _) ?_) | ((with_reducible first | refine hK_ _ _ ?_ | refine hK_ _ _ _ _ (Weak.refl _ _) ?_); clear hK_ K_) | clear hK_ K_)
        refine ⟨hil, _, (by simp only [go_sem, simprocAttr, h9]), (by simp only [go_sem, simprocAttr, h10]), (by simp only [go_sem, simprocAttr, ]), (by (try simp only [go_sem, simprocAttr, h3]); first | done | exact rfl), hxt, ?_⟩
        rw [hw]
        exact IsGc.mk (by (try simp only [Heap.push_n, Heap.set_n]); omega) (by (try simp only [Heap.push_n, Heap.set_n]); omega) (by simp [push_m, set_m, nlt hcn, nlt0 hcn]) (by simp)
  · repeat' (first | refine st ?_ | refine pblock_en rfl ?_ | (refine ss ?_; intro K_ hK_) | refine vc_draw' (by kernel_rfl) fun K_ hK_ => ?_ | refine vops_gf rfl ?_ | refine vops_gt rfl ?_ | refine vd_gf rfl ?_ | refine vd_gt rfl ?_ | (refine sk ?_; intro k_ hk_; simp only [go_sem, simprocAttr, h9, h10, h11, h3, ige hil]; (with_reducible first | refine hk_ _ _ ?_ | refine hk_ _ ?_ | refine hk_ _ _ (by (first | exact HExtR.refl _ | (refine HExtR.push ?_; first | rfl | simp only [go_sem, h9, h10, h11, h3, ige hil]))) ?_); clear hk_ k_) | ((first | refine sg ?_ | refine sc ?_); intro x_ y_ hx_ hy_; simp only [go_sem, simprocAttr, h9, h10, h11, h3, ige hil]; ((first | (with_reducible first | refine hx_ ?_ | refine hy_ ?_) | (with_reducible first | refine bI_split (fun h_ => hx_ ?_) (fun h_ => hy_ ?_) | refine bI_split (fun h_ => hy_ ?_) (fun h_ => hx_ ?_)) <;> try rw [h_]) <;> clear hx_ hy_ x_ y_)) | ((with_reducible first | refine hK_ _ _ ?_ | refine hK_ _ _ _ _ (Weak.refl _ _) ?_); clear hK_ K_) | clear hK_ K_)
    have : i = l.length := by omega
    subst this
    rw [List.take_length] at hg
    exact ⟨_, rfl, hg, hx'⟩
theorem joined_c (l : List Ar) (hl : l.length < 1000000) (H : Heap) : ACalls Try.prog 64 [.s (LV Ar.c l)] H (.s (LV Ar.c (joinedS l))) H := acalls_of_G ar_pers (joined_g l hl H)
end Go.Abs
/-
  list.around.
-/
namespace Go.Abs
set_option linter.unusedVariables false
set_option linter.unusedSimpArgs false
open Go.Proofs
set_option maxHeartbeats 8000000

theorem around_loop (l : List Ar) (hl : l.length < 1000000) (lo hi : Int) (H : Heap) (hlo : lo < hi) :
    ACallsR Try.prog 62 [.s (LV Ar.c l), .s (I lo), .s (I hi)] H fun r H' => ∃ y z, r = .tup [.s y, .s z] ∧ IsG Ar.c 6 H.n H' y (l.filterMap (aheadOf (afloor lo))) ∧ IsG Ar.c 6 H.n H' z (l.filterMap (behindOf (toOf hi))) ∧ Sep y z ∧ HExt H H' := by
  refine acalls_of te_ok mix Try.func62 rfl Try.call62 (by kernel_rfl) (by kernel_rfl) rfl ?_; simp only [Try.results62]
  have h0 : (lo ≥ hi) = False := by simp; omega
  have hto : toOf hi = if hi < 2097152 then wr (0 - afloor (wr (0 - hi))) else hi := rfl
  repeat' (first | refine st ?_ | refine pblock_en rfl ?_ | (refine ss ?_; intro K_ hK_) | refine vops_gf rfl ?_ | refine vops_gt rfl ?_ | (refine sk ?_; intro k_ hk_; simp only [go_sem, simprocAttr, h0]; (with_reducible first | refine hk_ _ _ ?_ | refine hk_ _ ?_); clear hk_ k_) | (refine sg ?_; intro x_ y_ hx_ hy_; simp only [go_sem, simprocAttr, h0]; ((first | (with_reducible first | refine hx_ ?_ | refine hy_ ?_) | (with_reducible first | refine bI_split (fun h_ => hx_ ?_) (fun h_ => hy_ ?_) | refine bI_split (fun h_ => hy_ ?_) (fun h_ => hx_ ?_)) <;> try rw [h_]) <;> clear hx_ hy_ x_ y_)) | ((with_reducible first | refine hK_ _ _ ?_ | refine hK_ _ _ _ _ (Weak.refl _ _) ?_); clear hK_ K_) | clear hK_ K_)
  (refine sc ?_; intro x_ y_ hx_ hy_; simp only [go_sem, simprocAttr, h0]; ((first | (with_reducible first | refine hx_ ?_ | refine hy_ ?_) | (with_reducible first | refine bI_split (fun h_ => hx_ ?_) (fun h_ => hy_ ?_) | refine bI_split (fun h_ => hy_ ?_) (fun h_ => hx_ ?_)) <;> try rw [h_]) <;> clear hx_ hy_ x_ y_))
  repeat' (first | refine st ?_ | refine pblock_en rfl ?_ | (refine ss ?_; intro K_ hK_) | refine vops_gf rfl ?_ | refine vops_gt rfl ?_ | (refine sk ?_; intro k_ hk_; simp only [go_sem, simprocAttr, h0]; (with_reducible first | refine hk_ _ _ ?_ | refine hk_ _ ?_); clear hk_ k_) | (refine sg ?_; intro x_ y_ hx_ hy_; simp only [go_sem, simprocAttr, h0]; ((first | (with_reducible first | refine hx_ ?_ | refine hy_ ?_) | (with_reducible first | refine bI_split (fun h_ => hx_ ?_) (fun h_ => hy_ ?_) | refine bI_split (fun h_ => hy_ ?_) (fun h_ => hx_ ?_)) <;> try rw [h_]) <;> clear hx_ hy_ x_ y_)) | (with_reducible first | refine callv_pure (lfloor_c _ _) ?_) | ((with_reducible first | refine hK_ _ _ ?_ | refine hK_ _ _ _ _ (Weak.refl _ _) ?_); clear hK_ K_) | clear hK_ K_)
  have hloop : ∀ σ0 H0, σ0 0 = .s (LV Ar.c l) → σ0 8 = .s (I (afloor lo)) → σ0 9 = .s (I (toOf hi)) → σ0 6 = .s (.raw (.slice none 0 0)) → σ0 7 = .s (.raw (.slice none 0 0)) → HExt H H0 → K_ σ0 H0 := by
    intro σ0 H0 e0 e8 e9 e6 e7 hx0
    refine hK_ _ _ _ _ (Weak.refl _ _) ?_
    clear hK_ K_
    repeat' (first | refine st ?_ | refine pblock_en rfl ?_ | (refine ss ?_; intro K_ hK_) | refine vops_gf rfl ?_ | refine vops_gt rfl ?_ | (refine sk ?_; intro k_ hk_; simp only [go_sem, simprocAttr, e0, e8, e9, e6, e7]; (with_reducible first | refine hk_ _ _ ?_ | refine hk_ _ ?_); clear hk_ k_) | ((first | refine sg ?_ | refine sc ?_); intro x_ y_ hx_ hy_; simp only [go_sem, simprocAttr, e0, e8, e9, e6, e7]; ((first | (with_reducible first | refine hx_ ?_ | refine hy_ ?_) | (with_reducible first | refine bI_split (fun h_ => hx_ ?_) (fun h_ => hy_ ?_) | refine bI_split (fun h_ => hy_ ?_) (fun h_ => hx_ ?_)) <;> try rw [h_]) <;> clear hx_ hy_ x_ y_)) | ((with_reducible first | refine hK_ _ _ ?_ | refine hK_ _ _ _ _ (Weak.refl _ _) ?_); clear hK_ K_) | clear hK_ K_)
    refine vc_range l.length (fun i σ' H' => ∃ y z, σ' 8 = .s (I (afloor lo)) ∧ σ' 9 = .s (I (toOf hi)) ∧ σ' 29 = .s (LV Ar.c l) ∧ σ' 30 = .s (I l.length) ∧ σ' 31 = .s (I i) ∧ σ' 6 = .s y ∧ σ' 7 = .s z ∧ HExt H H' ∧ IsG Ar.c 6 H.n H' y ((l.take i).filterMap (aheadOf (afloor lo))) ∧ IsG Ar.c 6 H.n H' z ((l.take i).filterMap (behindOf (toOf hi))) ∧ Sep y z) ⟨_, _, (by simp only [go_sem, simprocAttr, e8]), (by simp only [go_sem, simprocAttr, e9]), (by simp only [go_sem, simprocAttr, e0]), rfl, rfl, (by (try simp only [go_sem, simprocAttr, e6]); first | done | exact rfl), (by (try simp only [go_sem, simprocAttr, e7]); first | done | exact rfl), hx0, IsG.nil, IsG.nil, Sep.nil⟩ ?_
    rintro i σ' H' hi' ⟨y, z, h8, h9, h29, h30, h31, h6, h7, hx', hgy, hgz, hsep⟩
    have hn' := hx'.1
    by_cases hil : i < l.length
    · have ha : l[i]? = some l[i] := List.getElem?_eq_getElem hil
      generalize l[i] = a at ha
      have g1 := FL_at ar_len ha
      have hw1 := fm_take (f := aheadOf (afloor lo)) ha
      have hw2 := fm_take (f := behindOf (toOf hi)) ha
      have hl1 := fm_take_len (aheadOf (afloor lo)) l i
      have hl2 := fm_take_len (behindOf (toOf hi)) l i
      generalize (l.take i).filterMap (aheadOf (afloor lo)) = o1 at hgy hw1 hl1
      generalize (l.take i).filterMap (behindOf (toOf hi)) = o2 at hgz hw2 hl2
      have hws := wrap_succ (n := i) (by omega)
      have hilt := ilt hil
      rcases hp1 : apart a 65536 (imax (afloor lo) 65536) with _ | p1 <;> by_cases hc1 : afloor lo > a.s
      all_goals
        simp only [aheadOf, hp1, hc1, if_true, if_false, ite_self, Option.toList_some, Option.toList_none, List.append_nil] at hw1
        repeat' (first | refine st ?_ | refine pblock_en rfl ?_ | (refine ss ?_; intro K_ hK_) | refine vops_gf rfl ?_ | refine vops_gt rfl ?_ | (refine sk ?_; intro k_ hk_; simp only [go_sem, simprocAttr, h8, h9, h29, h30, h31, h6, h7, hilt, g1, hp1, hc1]; (with_reducible first | refine hk_ _ _ ?_ | refine hk_ _ ?_); clear hk_ k_) | (refine sg ?_; intro x_ y_ hx_ hy_; simp only [go_sem, simprocAttr, h8, h9, h29, h30, h31, h6, h7, hilt, g1, hp1, hc1]; ((first | (with_reducible first | refine hx_ ?_ | refine hy_ ?_) | (with_reducible first | refine bI_split (fun h_ => hx_ ?_) (fun h_ => hy_ ?_) | refine bI_split (fun h_ => hy_ ?_) (fun h_ => hx_ ?_)) <;> try rw [h_]) <;> clear hx_ hy_ x_ y_)) | (with_reducible first | refine callv_pure (part_c _ _ _ _) ?_) | ((with_reducible first | refine hK_ _ _ ?_ | refine hK_ _ _ _ _ (Weak.refl _ _) ?_); clear hK_ K_) | clear hK_ K_)
        (refine sc ?_; intro x_ y_ hx_ hy_; simp only [go_sem, simprocAttr, h8, h9, h29, h30, h31, h6, h7, hilt, g1, hp1, hc1]; ((first | (with_reducible first | refine hx_ ?_ | refine hy_ ?_) | (with_reducible first | refine bI_split (fun h_ => hx_ ?_) (fun h_ => hy_ ?_) | refine bI_split (fun h_ => hy_ ?_) (fun h_ => hx_ ?_)) <;> try rw [h_]) <;> clear hx_ hy_ x_ y_))
        repeat' (first | refine st ?_ | refine pblock_en rfl ?_ | (refine ss ?_; intro K_ hK_) | refine vops_gf rfl ?_ | refine vops_gt rfl ?_ | (refine sk ?_; intro k_ hk_; simp only [go_sem, simprocAttr, h8, h9, h29, h30, h31, h6, h7, hilt, g1, hp1, hc1]; (with_reducible first | refine hk_ _ _ ?_ | refine hk_ _ ?_); clear hk_ k_) | (refine sg ?_; intro x_ y_ hx_ hy_; simp only [go_sem, simprocAttr, h8, h9, h29, h30, h31, h6, h7, hilt, g1, hp1, hc1]; ((first | (with_reducible first | refine hx_ ?_ | refine hy_ ?_) | (with_reducible first | refine bI_split (fun h_ => hx_ ?_) (fun h_ => hy_ ?_) | refine bI_split (fun h_ => hy_ ?_) (fun h_ => hx_ ?_)) <;> try rw [h_]) <;> clear hx_ hy_ x_ y_)) | (with_reducible first | refine callv_pure (part_c _ _ _ _) ?_) | ((with_reducible first | refine hK_ _ _ ?_ | refine hK_ _ _ _ _ (Weak.refl _ _) ?_); clear hK_ K_) | clear hK_ K_)
      all_goals
        have hmid : ∀ σ2 H2 y' o1', σ2 8 = .s (I (afloor lo)) → σ2 9 = .s (I (toOf hi)) → σ2 11 = .s (.ptr H'.n 0) → σ2 29 = .s (LV Ar.c l) → σ2 30 = .s (I l.length) → σ2 31 = .s (I i) → σ2 6 = .s y' → σ2 7 = .s z → HExt H H2 → H'.n < H2.n → H2.m H'.n = some { cells := a.c } →
            IsG Ar.c 6 H.n H2 y' o1' → o1' = (l.take (i + 1)).filterMap (aheadOf (afloor lo)) → IsG Ar.c 6 H.n H2 z o2 → Sep y' z → K_ σ2 H2 := by
          intro σ2 H2 y' o1' s8 s9 s11 s29 s30 s31 s6 s7 hx2 hq hqm gy ho gz sne
          refine hK_ _ _ _ _ (Weak.refl _ _) ?_
          clear hK_ K_
          have m2 := hx2.1
          rcases hp2 : apart a (imax (toOf hi) 65536) 2097152 with _ | p2 <;> by_cases hc2 : toOf hi < a.e
          all_goals
            simp only [behindOf, hp2, hc2, if_true, if_false, ite_self, Option.toList_some, Option.toList_none, List.append_nil] at hw2
            repeat' (first | refine st ?_ | refine pblock_en rfl ?_ | (refine ss ?_; intro K_ hK_) | refine vops_gf rfl ?_ | refine vops_gt rfl ?_ | (refine sk ?_; intro k_ hk_; simp only [go_sem, simprocAttr, s8, s9, s11, s29, s30, s31, s6, s7, hqm, nlt hq, nlt0 hq, hws, hp2, hc2]; (with_reducible first | refine hk_ _ _ ?_ | refine hk_ _ ?_); clear hk_ k_) | ((first | refine sg ?_ | refine sc ?_); intro x_ y_ hx_ hy_; simp only [go_sem, simprocAttr, s8, s9, s11, s29, s30, s31, s6, s7, hqm, nlt hq, nlt0 hq, hws, hp2, hc2]; ((first | (with_reducible first | refine hx_ ?_ | refine hy_ ?_) | (with_reducible first | refine bI_split (fun h_ => hx_ ?_) (fun h_ => hy_ ?_) | refine bI_split (fun h_ => hy_ ?_) (fun h_ => hx_ ?_)) <;> try rw [h_]) <;> clear hx_ hy_ x_ y_)) | (with_reducible first | refine callv_pure (part_c _ _ _ _) ?_) | ((with_reducible first | refine hK_ _ _ ?_ | refine hK_ _ _ _ _ (Weak.refl _ _) ?_); clear hK_ K_) | clear hK_ K_)
          all_goals first
            | (refine ⟨hil, y', z, (by simp only [go_sem, simprocAttr, s8]), (by simp only [go_sem, simprocAttr, s9]), (by simp only [go_sem, simprocAttr, s29]), (by simp only [go_sem, simprocAttr, s30]), (by simp only [go_sem, simprocAttr, ]), (by simp only [go_sem, simprocAttr, s6]), (by simp only [go_sem, simprocAttr, s7]), hxt, ?_, ?_, sne⟩
               · rw [← ho]; exact gy.ext (hxo)
               · rw [hw2]; exact gz.ext (hxo))
            | skip
          refine vx_append (f := Ar.c) (sz := 6) (H0 := H) (new := [p2]) rfl rfl rfl rfl rfl rfl ar_len hxt (gz.ext (hxo)) (by simp only [go_sem, simprocAttr, s7]) (by simp only [go_sem, simprocAttr, FL_one]) (by simp; omega) ?_
          intro z' H3 hg3 hx3 hk3
          replace hk3 : Keep z H2 z' H3 := hk3.of (hxo)
          have gy3 := gy.beside sne.symm hk3
          have se3 : Sep y' z' := (Sep.grow sne.symm gy hk3).symm
          repeat' (first | refine st ?_ | refine pblock_en rfl ?_ | (refine ss ?_; intro K_ hK_) | refine vops_gf rfl ?_ | refine vops_gt rfl ?_ | (refine sk ?_; intro k_ hk_; simp only [go_sem, simprocAttr, s8, s9, s29, s30, s31, s6, s7, hws]; (with_reducible first | refine hk_ _ _ ?_ | refine hk_ _ ?_); clear hk_ k_) | ((first | refine sg ?_ | refine sc ?_); intro x_ y_ hx_ hy_; simp only [go_sem, simprocAttr, s8, s9, s29, s30, s31, s6, s7, hws]; ((first | (with_reducible first | refine hx_ ?_ | refine hy_ ?_) | (with_reducible first | refine bI_split (fun h_ => hx_ ?_) (fun h_ => hy_ ?_) | refine bI_split (fun h_ => hy_ ?_) (fun h_ => hx_ ?_)) <;> try rw [h_]) <;> clear hx_ hy_ x_ y_)) | ((with_reducible first | refine hK_ _ _ ?_ | refine hK_ _ _ _ _ (Weak.refl _ _) ?_); clear hK_ K_) | clear hK_ K_)
          exact ⟨hil, y', z', (by simp only [go_sem, simprocAttr, s8]), (by simp only [go_sem, simprocAttr, s9]), (by simp only [go_sem, simprocAttr, s29]), (by simp only [go_sem, simprocAttr, s30]), (by simp only [go_sem, simprocAttr, ]), (by simp only [go_sem, simprocAttr, s6]), (by simp only [go_sem, simprocAttr, ]), hx3, by rw [← ho]; exact gy3, by rw [hw2]; exact hg3, se3⟩
        clear hK_
        repeat' (first | refine st ?_ | refine pblock_en rfl ?_ | (refine ss ?_; intro K_ hK_) | refine vops_gf rfl ?_ | refine vops_gt rfl ?_ | (refine sk ?_; intro k_ hk_; simp only [go_sem, simprocAttr, h8, h9, h29, h30, h31, h6, h7, hilt, g1, hp1, hc1]; (with_reducible first | refine hk_ _ _ ?_ | refine hk_ _ ?_); clear hk_ k_) | ((first | refine sg ?_ | refine sc ?_); intro x_ y_ hx_ hy_; simp only [go_sem, simprocAttr, h8, h9, h29, h30, h31, h6, h7, hilt, g1, hp1, hc1]; ((first | (with_reducible first | refine hx_ ?_ | refine hy_ ?_) | (with_reducible first | refine bI_split (fun h_ => hx_ ?_) (fun h_ => hy_ ?_) | refine bI_split (fun h_ => hy_ ?_) (fun h_ => hx_ ?_)) <;> try rw [h_]) <;> clear hx_ hy_ x_ y_)) | ((with_reducible first | refine hK_ _ _ ?_ | refine hK_ _ _ _ _ (Weak.refl _ _) ?_); clear hK_ K_) | clear hK_ K_)
      all_goals first
        | (refine hmid _ _ y o1 (by simp only [go_sem, simprocAttr, h8]) (by simp only [go_sem, simprocAttr, h9]) (by simp only [go_sem, simprocAttr, ]) (by simp only [go_sem, simprocAttr, h29]) (by simp only [go_sem, simprocAttr, h30]) (by simp only [go_sem, simprocAttr, h31]) (by simp only [go_sem, simprocAttr, h6]) (by simp only [go_sem, simprocAttr, h7]) hxt (by (try simp only [Heap.push_n, Heap.set_n]); omega) (by simp [push_m, set_m, Nat.add_assoc]) ?_ hw1.symm ?_ hsep
           · exact hgy.ext (hxo)
           · exact hgz.ext (hxo))
        | skip
      refine vx_append (f := Ar.c) (sz := 6) (H0 := H) (new := [p1]) rfl rfl rfl rfl rfl rfl ar_len hxt (hgy.ext (hxo)) (by simp only [go_sem, simprocAttr, h6]) (by simp only [go_sem, simprocAttr, FL_one, hp1]) (by simp; omega) ?_
      intro y' H3 hg3 hx3 hk3
      have hbox := hk3.keep H'.n (by (try simp only [Heap.push_n, Heap.set_n]); omega) (fun m e => by subst e; have := hgy.lt; omega)
      have hn3 := hk3.n
      replace hk3 : Keep y H' y' H3 := hk3.of (hxo)
      have gz3 := hgz.beside hsep hk3
      have se3 : Sep y' z := Sep.grow hsep hgz hk3
      repeat' (first | refine st ?_ | refine pblock_en rfl ?_ | (refine ss ?_; intro K_ hK_) | refine vops_gf rfl ?_ | refine vops_gt rfl ?_ | (refine sk ?_; intro k_ hk_; simp only [go_sem, simprocAttr, h8, h9, h29, h30, h31, h7]; (with_reducible first | refine hk_ _ _ ?_ | refine hk_ _ ?_); clear hk_ k_) | ((first | refine sg ?_ | refine sc ?_); intro x_ y_ hx_ hy_; simp only [go_sem, simprocAttr, h8, h9, h29, h30, h31, h7]; ((first | (with_reducible first | refine hx_ ?_ | refine hy_ ?_) | (with_reducible first | refine bI_split (fun h_ => hx_ ?_) (fun h_ => hy_ ?_) | refine bI_split (fun h_ => hy_ ?_) (fun h_ => hx_ ?_)) <;> try rw [h_]) <;> clear hx_ hy_ x_ y_)) | ((with_reducible first | refine hK_ _ _ ?_ | refine hK_ _ _ _ _ (Weak.refl _ _) ?_); clear hK_ K_) | clear hK_ K_)
      exact hmid _ _ y' _ (by simp only [go_sem, simprocAttr, h8]) (by simp only [go_sem, simprocAttr, h9]) (by simp only [go_sem, simprocAttr, ]) (by simp only [go_sem, simprocAttr, h29]) (by simp only [go_sem, simprocAttr, h30]) (by simp only [go_sem, simprocAttr, h31]) (by simp only [go_sem, simprocAttr, ]) (by simp only [go_sem, simprocAttr, h7]) hx3 (by (try simp only [Heap.push_n, Heap.set_n] at hn3); omega) (by rw [hbox]; simp [push_m, set_m, Nat.add_assoc]) hg3 hw1.symm gz3 se3
    · repeat' (first | refine st ?_ | refine pblock_en rfl ?_ | (refine ss ?_; intro K_ hK_) | refine vops_gf rfl ?_ | refine vops_gt rfl ?_ | (refine sk ?_; intro k_ hk_; simp only [go_sem, simprocAttr, h8, h9, h29, h30, h31, h6, h7, ige hil]; (with_reducible first | refine hk_ _ _ ?_ | refine hk_ _ ?_); clear hk_ k_) | ((first | refine sg ?_ | refine sc ?_); intro x_ y_ hx_ hy_; simp only [go_sem, simprocAttr, h8, h9, h29, h30, h31, h6, h7, ige hil]; ((first | (with_reducible first | refine hx_ ?_ | refine hy_ ?_) | (with_reducible first | refine bI_split (fun h_ => hx_ ?_) (fun h_ => hy_ ?_) | refine bI_split (fun h_ => hy_ ?_) (fun h_ => hx_ ?_)) <;> try rw [h_]) <;> clear hx_ hy_ x_ y_)) | ((with_reducible first | refine hK_ _ _ ?_ | refine hK_ _ _ _ _ (Weak.refl _ _) ?_); clear hK_ K_) | clear hK_ K_)
      have : i = l.length := by omega
      subst this
      rw [List.take_length] at hgy hgz
      exact ⟨_, _, rfl, hgy, hgz, hsep, hx'⟩
  clear hK_
  by_cases hhi : hi < 2097152
  all_goals
    simp only [hhi, if_true, if_false] at hto
    (refine sc ?_; intro x_ y_ hx_ hy_; simp only [go_sem, simprocAttr, hhi]; ((first | (with_reducible first | refine hx_ ?_ | refine hy_ ?_) | (with_reducible first | refine bI_split (fun h_ => hx_ ?_) (fun h_ => hy_ ?_) | refine bI_split (fun h_ => hy_ ?_) (fun h_ => hx_ ?_)) <;> try rw [h_]) <;> clear hx_ hy_ x_ y_))
    repeat' (first | refine st ?_ | refine pblock_en rfl ?_ | (refine ss ?_; intro K_ hK_) | refine vops_gf rfl ?_ | refine vops_gt rfl ?_ | (refine sk ?_; intro k_ hk_; simp only [go_sem, simprocAttr, hhi]; (with_reducible first | refine hk_ _ _ ?_ | refine hk_ _ ?_); clear hk_ k_) | ((first | refine sg ?_ | refine sc ?_); intro x_ y_ hx_ hy_; simp only [go_sem, simprocAttr, hhi]; ((first | (with_reducible first | refine hx_ ?_ | refine hy_ ?_) | (with_reducible first | refine bI_split (fun h_ => hx_ ?_) (fun h_ => hy_ ?_) | refine bI_split (fun h_ => hy_ ?_) (fun h_ => hx_ ?_)) <;> try rw [h_]) <;> clear hx_ hy_ x_ y_)) | (with_reducible first | refine callv_pure (lfloor_c _ _) ?_) | ((with_reducible first | refine hK_ _ _ ?_ | refine hK_ _ _ _ _ (Weak.refl _ _) ?_); clear hK_ K_) | clear hK_ K_)
    exact hloop _ _ (by simp only [go_sem, simprocAttr, ]) (by simp only [go_sem, simprocAttr, ]) (by simp only [go_sem, simprocAttr, hto]) (by simp only [go_sem, simprocAttr, ]) (by simp only [go_sem, simprocAttr, ]) (HExt.refl _)
theorem around0 (l : List Ar) (lo hi : Int) (H : Heap) (hlo : ¬ lo < hi) : ACalls Try.prog 62 [.s (LV Ar.c l), .s (I lo), .s (I hi)] H (.tup [.s (LV Ar.c l), .s (LV Ar.c [])]) H := by
  refine acalls_fz te_ok mix Try.func62 rfl Try.call62 (by kernel_rfl) (by kernel_rfl) rfl ?_; simp only [Try.results62]
  have h0 : (lo ≥ hi) = True := by simp; omega
  repeat' (first | refine st ?_ | refine pblock_en rfl ?_ | (refine ss ?_; intro K_ hK_) | refine vops_gf rfl ?_ | refine vops_gt rfl ?_ | (refine sk ?_; intro k_ hk_; simp only [go_sem, simprocAttr, h0]; (with_reducible first | refine hk_ _ _ ?_ | refine hk_ _ ?_); clear hk_ k_) | ((first | refine sg ?_ | refine sc ?_); intro x_ y_ hx_ hy_; simp only [go_sem, simprocAttr, h0]; ((first | (with_reducible first | refine hx_ ?_ | refine hy_ ?_) | (with_reducible first | refine bI_split (fun h_ => hx_ ?_) (fun h_ => hy_ ?_) | refine bI_split (fun h_ => hy_ ?_) (fun h_ => hx_ ?_)) <;> try rw [h_]) <;> clear hx_ hy_ x_ y_)) | ((with_reducible first | refine hK_ _ _ ?_ | refine hK_ _ _ _ _ (Weak.refl _ _) ?_); clear hK_ K_) | clear hK_ K_)
  exact ⟨HExt.refl _, H, H, .inl ⟨rfl, rfl, rfl⟩, H, .inr (.inl ⟨rfl, rfl, rfl⟩), rfl⟩
theorem around_c (l : List Ar) (hl : l.length < 1000000) (lo hi : Int) (H : Heap) : ACalls Try.prog 62 [.s (LV Ar.c l), .s (I lo), .s (I hi)] H (.tup [.s (LV Ar.c (aheadS l lo hi)), .s (LV Ar.c (behindS l lo hi))]) H := by
  unfold aheadS behindS
  by_cases h : lo < hi
  · simp only [h, if_true]; exact acalls_of_G2 ar_pers (around_loop l hl lo hi H h)
  · simp only [h, if_false]; exact around0 l lo hi H h
end Go.Abs
/-
  slices.Clone, slices.Grow, slices.Concat.
-/
namespace Go.Abs
set_option linter.unusedVariables false
set_option linter.unusedSimpArgs false
open Go.Proofs
set_option maxHeartbeats 4000000

theorem clone_g (l : List Ar) (hl : l.length < 1000000) (H : Heap) :
    ACallsR Try.prog 29 [.s (LV Ar.c l)] H fun r H' => ∃ y, r = .s y ∧ IsG Ar.c 6 H.n H' y l ∧ HExt H H' := by
  by_cases h0 : l = []
  · subst h0
    refine acallsR_empty ?_ ?_
    · refine acalls_of te_ok mix Try.func29 rfl Try.call29 (by kernel_rfl) (by kernel_rfl) rfl ?_; simp only [Try.results29]
      repeat' (first | refine st ?_ | refine pblock_en rfl ?_ | (refine ss ?_; intro K_ hK_) | refine vops_gf rfl ?_ | refine vops_gt rfl ?_ | (refine sk ?_; intro k_ hk_; simp only [go_sem, simprocAttr]; (with_reducible first | refine hk_ _ _ ?_ | refine hk_ _ ?_); clear hk_ k_) | ((first | refine sg ?_ | refine sc ?_); intro x_ y_ hx_ hy_; simp only [go_sem, simprocAttr]; ((first | (with_reducible first | refine hx_ ?_ | refine hy_ ?_) | (with_reducible first | refine bI_split (fun h_ => hx_ ?_) (fun h_ => hy_ ?_) | refine bI_split (fun h_ => hy_ ?_) (fun h_ => hx_ ?_)) <;> try rw [h_]) <;> clear hx_ hy_ x_ y_)) | ((with_reducible first | refine hK_ _ _ ?_ | refine hK_ _ _ _ _ (Weak.refl _ _) ?_); clear hK_ K_) | clear hK_ K_)
      exact ⟨_, rfl, IsG.nil, HExt.refl _⟩
    · refine acalls_of te_ok mix Try.func29 rfl Try.call29 (by kernel_rfl) (by kernel_rfl) rfl ?_; simp only [Try.results29]
      repeat' (first | refine st ?_ | refine pblock_en rfl ?_ | (refine ss ?_; intro K_ hK_) | refine vops_gf rfl ?_ | refine vops_gt rfl ?_ | (refine sk ?_; intro k_ hk_; simp only [go_sem, simprocAttr]; (with_reducible first | refine hk_ _ _ ?_ | refine hk_ _ ?_); clear hk_ k_) | ((first | refine sg ?_ | refine sc ?_); intro x_ y_ hx_ hy_; simp only [go_sem, simprocAttr]; ((first | (with_reducible first | refine hx_ ?_ | refine hy_ ?_) | (with_reducible first | refine bI_split (fun h_ => hx_ ?_) (fun h_ => hy_ ?_) | refine bI_split (fun h_ => hy_ ?_) (fun h_ => hx_ ?_)) <;> try rw [h_]) <;> clear hx_ hy_ x_ y_)) | ((with_reducible first | refine hK_ _ _ ?_ | refine hK_ _ _ _ _ (Weak.refl _ _) ?_); clear hK_ K_) | clear hK_ K_)
      exact ⟨_, rfl, IsGc.mk (Nat.le_refl _) (by simp) (by simp [push_m, FL_nil]) rfl, hxt⟩
  · refine acalls_of te_ok mix Try.func29 rfl Try.call29 (by kernel_rfl) (by kernel_rfl) rfl ?_; simp only [Try.results29]
    have hne : (l.length = 0) = False := by simp; exact h0
    have hcap : l.length * 48 ≤ 70368744177664 := by omega
    repeat' (first | refine st ?_ | refine pblock_en rfl ?_ | (refine ss ?_; intro K_ hK_) | refine vops_gf rfl ?_ | refine vops_gt rfl ?_ | (refine sk ?_; intro k_ hk_; simp only [go_sem, simprocAttr, hne, hcap, FL_len ar_len]; (with_reducible first | refine hk_ _ _ ?_ | refine hk_ _ ?_); clear hk_ k_) | ((first | refine sg ?_ | refine sc ?_); intro x_ y_ hx_ hy_; simp only [go_sem, simprocAttr, hne, hcap, FL_len ar_len]; ((first | (with_reducible first | refine hx_ ?_ | refine hy_ ?_) | (with_reducible first | refine bI_split (fun h_ => hx_ ?_) (fun h_ => hy_ ?_) | refine bI_split (fun h_ => hy_ ?_) (fun h_ => hx_ ?_)) <;> try rw [h_]) <;> clear hx_ hy_ x_ y_)) | ((with_reducible first | refine hK_ _ _ ?_ | refine hK_ _ _ _ _ (Weak.refl _ _) ?_); clear hK_ K_) | clear hK_ K_)
    exact ⟨_, rfl, IsGc.mk (by (try simp only [Heap.push_n, Heap.set_n]); omega) (by simp) (by simp [push_m, set_m]) rfl, hxt⟩
theorem clone_c (l : List Ar) (hl : l.length < 1000000) (H : Heap) : ACalls Try.prog 29 [.s (LV Ar.c l)] H (.s (LV Ar.c l)) H := acalls_of_G ar_pers (clone_g l hl H)

theorem grow_g (n : Nat) (hn : n < 100000000) (H : Heap) :
    ACallsR Try.prog 86 [.s (.raw (.slice none 0 0)), .s (I n)] H fun r H' => ∃ y, r = .s y ∧ IsG Ar.c 6 H.n H' y [] ∧ HExt H H' := by
  refine acalls_of te_ok mix Try.func86 rfl Try.call86 (by kernel_rfl) (by kernel_rfl) rfl ?_; simp only [Try.results86]
  have h1 : ((n : Int) < 0) = False := by simp
  have h2 : IntKind.i64.wrap (n : Int) = (n : Int) := by rw [wrap_id] <;> omega
  by_cases h0 : n = 0
  · subst h0
    have h5 : IntKind.i64.wrap 0 = 0 := by decide
    repeat' (first | refine st ?_ | refine pblock_en rfl ?_ | (refine ss ?_; intro K_ hK_) | refine vops_gf rfl ?_ | refine vops_gt rfl ?_ | (refine sk ?_; intro k_ hk_; simp only [go_sem, simprocAttr, h5]; (with_reducible first | refine hk_ _ _ ?_ | refine hk_ _ ?_); clear hk_ k_) | ((first | refine sg ?_ | refine sc ?_); intro x_ y_ hx_ hy_; simp only [go_sem, simprocAttr, h5]; ((first | (with_reducible first | refine hx_ ?_ | refine hy_ ?_) | (with_reducible first | refine bI_split (fun h_ => hx_ ?_) (fun h_ => hy_ ?_) | refine bI_split (fun h_ => hy_ ?_) (fun h_ => hx_ ?_)) <;> try rw [h_]) <;> clear hx_ hy_ x_ y_)) | ((with_reducible first | refine hK_ _ _ ?_ | refine hK_ _ _ _ _ (Weak.refl _ _) ?_); clear hK_ K_) | clear hK_ K_)
    exact ⟨_, rfl, IsG.nil, HExt.refl _⟩
  · have h3 : ((n : Int) > 0) = True := by simp; omega
    have h3' : (0 < (n : Int)) = True := by simp; omega
    have h4 : ((n : Int) * 48 ≤ 70368744177664) = True := by simp; omega
    have h4' : ((n : Int) * ((48 : Nat) : Int) ≤ 70368744177664) = True := by simp; omega
    have h5 : IntKind.i64.wrap 0 = 0 := by decide
    have h6 : IntKind.i64.wrap ((n : Int) - 0) = (n : Int) := by rw [wrap_id] <;> omega
    repeat' (first | refine st ?_ | refine pblock_en rfl ?_ | (refine ss ?_; intro K_ hK_) | refine vops_gf rfl ?_ | refine vops_gt rfl ?_ | (refine sk ?_; intro k_ hk_; simp only [go_sem, simprocAttr, h1, h2, h3, h3', h4, h4', h5, h6, Int.sub_zero]; (with_reducible first | refine hk_ _ _ ?_ | refine hk_ _ ?_); clear hk_ k_) | ((first | refine sg ?_ | refine sc ?_); intro x_ y_ hx_ hy_; simp only [go_sem, simprocAttr, h1, h2, h3, h3', h4, h4', h5, h6, Int.sub_zero]; ((first | (with_reducible first | refine hx_ ?_ | refine hy_ ?_) | (with_reducible first | refine bI_split (fun h_ => hx_ ?_) (fun h_ => hy_ ?_) | refine bI_split (fun h_ => hy_ ?_) (fun h_ => hx_ ?_)) <;> try rw [h_]) <;> clear hx_ hy_ x_ y_)) | ((with_reducible first | refine hK_ _ _ ?_ | refine hK_ _ _ _ _ (Weak.refl _ _) ?_); clear hK_ K_) | clear hK_ K_)
    exact ⟨_, rfl, IsGc.mk (by (try simp only [Heap.push_n, Heap.set_n]); omega) (by simp) (by simp [push_m, set_m, FL_nil]) rfl, hxt⟩

def LL (L : List Ar) : List SV := [LV Ar.c L]
theorem ll_len (L : List Ar) : (LL L).length = 1 := rfl
theorem ll_get (L : List Ar) (r : List SV) : (LL L ++ r)[0]? = some (LV Ar.c L) := rfl
attribute [go_sem] ll_get
def suml (ls : List (List Ar)) : Nat := (ls.map List.length).sum
theorem suml_flat (ls : List (List Ar)) : ls.flatten.length = suml ls := by simp [suml, List.length_flatten]
theorem suml_take {ls : List (List Ar)} {i : Nat} {a : List Ar} (ha : ls[i]? = some a) : suml (ls.take (i + 1)) = suml (ls.take i) + a.length := by
  rw [List.take_add_one, ha]; simp [suml]
theorem suml_le (ls : List (List Ar)) (i : Nat) : suml (ls.take i) ≤ suml ls := by
  conv => rhs; rw [← List.take_append_drop i ls]
  simp only [suml, List.map_append, List.sum_append]; omega
theorem flat_take {ls : List (List Ar)} {i : Nat} {a : List Ar} (ha : ls[i]? = some a) : (ls.take (i + 1)).flatten = (ls.take i).flatten ++ a := by
  rw [List.take_add_one, ha]; simp

theorem concat_g (ls : List (List Ar)) (hl : ls.length < 1000000) (hs : suml ls < 10000000) (H : Heap) :
    ACallsR Try.prog 65 [.s (LV LL ls)] H fun r H' => ∃ y, r = .s y ∧ IsG Ar.c 6 H.n H' y ls.flatten ∧ HExt H H' := by
  refine acalls_of te_ok mix Try.func65 rfl Try.call65 (by kernel_rfl) (by kernel_rfl) rfl ?_; simp only [Try.results65]
  repeat' (first | refine st ?_ | refine pblock_en rfl ?_ | (refine ss ?_; intro K_ hK_) | refine vops_gf rfl ?_ | refine vops_gt rfl ?_ | (refine sk ?_; intro k_ hk_; simp only [go_sem, simprocAttr]; (with_reducible first | refine hk_ _ _ ?_ | refine hk_ _ ?_); clear hk_ k_) | ((first | refine sg ?_ | refine sc ?_); intro x_ y_ hx_ hy_; simp only [go_sem, simprocAttr]; ((first | (with_reducible first | refine hx_ ?_ | refine hy_ ?_) | (with_reducible first | refine bI_split (fun h_ => hx_ ?_) (fun h_ => hy_ ?_) | refine bI_split (fun h_ => hy_ ?_) (fun h_ => hx_ ?_)) <;> try rw [h_]) <;> clear hx_ hy_ x_ y_)) | ((with_reducible first | refine hK_ _ _ ?_ | refine hK_ _ _ _ _ (Weak.refl _ _) ?_); clear hK_ K_) | clear hK_ K_)
  refine vc_range ls.length (fun i σ' H' => σ' 0 = .s (LV LL ls) ∧ σ' 9 = .s (LV LL ls) ∧ σ' 10 = .s (I ls.length) ∧ σ' 11 = .s (I i) ∧ σ' 3 = .s (I (suml (ls.take i) : Nat)) ∧ HExt H H') ⟨rfl, rfl, rfl, rfl, by simp [suml, Upd], HExt.refl _⟩ ?_
  rintro i σ' H' hi' ⟨h0, h9, h10, h11, h3, hx'⟩
  have hb := suml_le ls i
  by_cases hil : i < ls.length
  · have ha : ls[i]? = some ls[i] := List.getElem?_eq_getElem hil
    generalize ls[i] = a at ha
    have g1 := FL_at ll_len ha
    have hb1 := suml_le ls (i + 1)
    have hst := suml_take ha
    have e1 : IntKind.i64.wrap ((suml (ls.take i) : Nat) + (a.length : Nat)) = ((suml (ls.take (i + 1)) : Nat) : Int) := by rw [wrap_id] <;> omega
    have e2 : (((suml (ls.take (i + 1)) : Nat) : Int) < 0) = False := by simp
    repeat' (first | refine st ?_ | refine pblock_en rfl ?_ | (refine ss ?_; intro K_ hK_) | refine vops_gf rfl ?_ | refine vops_gt rfl ?_ | (refine sk ?_; intro k_ hk_; simp only [go_sem, simprocAttr, h0, h9, h10, h11, h3, ilt hil, g1, e1, e2, wrap_succ (n := i) (by omega)]; (with_reducible first | refine hk_ _ _ ?_ | refine hk_ _ ?_); clear hk_ k_) | ((first | refine sg ?_ | refine sc ?_); intro x_ y_ hx_ hy_; simp only [go_sem, simprocAttr, h0, h9, h10, h11, h3, ilt hil, g1, e1, e2, wrap_succ (n := i) (by omega)]; ((first | (with_reducible first | refine hx_ ?_ | refine hy_ ?_) | (with_reducible first | refine bI_split (fun h_ => hx_ ?_) (fun h_ => hy_ ?_) | refine bI_split (fun h_ => hy_ ?_) (fun h_ => hx_ ?_)) <;> try rw [h_]) <;> clear hx_ hy_ x_ y_)) | ((with_reducible first | refine hK_ _ _ ?_ | refine hK_ _ _ _ _ (Weak.refl _ _) ?_); clear hK_ K_) | clear hK_ K_)
    exact ⟨hil, (by simp only [go_sem, simprocAttr, h0]), (by simp only [go_sem, simprocAttr, h9]), (by simp only [go_sem, simprocAttr, h10]), (by simp only [go_sem, simprocAttr, ]), (by simp only [go_sem, simprocAttr, ]), hxt⟩
  · have : i = ls.length := by omega
    subst this
    rw [List.take_length] at h3
    repeat' (first | refine st ?_ | refine pblock_en rfl ?_ | (refine ss ?_; intro K_ hK_) | refine vops_gf rfl ?_ | refine vops_gt rfl ?_ | (refine sk ?_; intro k_ hk_; simp only [go_sem, simprocAttr, h0, h9, h10, h11, h3, ige hil]; (with_reducible first | refine hk_ _ _ ?_ | refine hk_ _ ?_); clear hk_ k_) | ((first | refine sg ?_ | refine sc ?_); intro x_ y_ hx_ hy_; simp only [go_sem, simprocAttr, h0, h9, h10, h11, h3, ige hil]; ((first | (with_reducible first | refine hx_ ?_ | refine hy_ ?_) | (with_reducible first | refine bI_split (fun h_ => hx_ ?_) (fun h_ => hy_ ?_) | refine bI_split (fun h_ => hy_ ?_) (fun h_ => hx_ ?_)) <;> try rw [h_]) <;> clear hx_ hy_ x_ y_)) | ((with_reducible first | refine hK_ _ _ ?_ | refine hK_ _ _ _ _ (Weak.refl _ _) ?_); clear hK_ K_) | clear hK_ K_)
    refine callv (grow_g (suml ls) (by omega) _) ?_
    rintro r H1 ⟨y1, rfl, hg1, hx1⟩
    have hx1' := hx'.trans hx1
    replace hg1 := hg1.less hx'.1
    repeat' (first | refine st ?_ | refine pblock_en rfl ?_ | (refine ss ?_; intro K_ hK_) | refine vops_gf rfl ?_ | refine vops_gt rfl ?_ | (refine sk ?_; intro k_ hk_; simp only [go_sem, simprocAttr, h0, h9, h10, h11, h3]; (with_reducible first | refine hk_ _ _ ?_ | refine hk_ _ ?_); clear hk_ k_) | ((first | refine sg ?_ | refine sc ?_); intro x_ y_ hx_ hy_; simp only [go_sem, simprocAttr, h0, h9, h10, h11, h3]; ((first | (with_reducible first | refine hx_ ?_ | refine hy_ ?_) | (with_reducible first | refine bI_split (fun h_ => hx_ ?_) (fun h_ => hy_ ?_) | refine bI_split (fun h_ => hy_ ?_) (fun h_ => hx_ ?_)) <;> try rw [h_]) <;> clear hx_ hy_ x_ y_)) | ((with_reducible first | refine hK_ _ _ ?_ | refine hK_ _ _ _ _ (Weak.refl _ _) ?_); clear hK_ K_) | clear hK_ K_)
    refine vc_range ls.length (fun i σ' H' => ∃ y, σ' 25 = .s (LV LL ls) ∧ σ' 26 = .s (I ls.length) ∧ σ' 27 = .s (I i) ∧ σ' 6 = .s y ∧ HExt H H' ∧ IsG Ar.c 6 H.n H' y (ls.take i).flatten) ⟨y1, (by simp only [go_sem, simprocAttr, h0]), rfl, rfl, rfl, hx1', hg1⟩ ?_
    clear hil hb h0 h9 h10 h11 h3 hx1' hg1 hx1 hx' hi'
    rintro i σ' H' hi' ⟨y, h25, h26, h27, h6, hx', hg⟩
    have hb := suml_le ls i
    by_cases hil : i < ls.length
    · have ha : ls[i]? = some ls[i] := List.getElem?_eq_getElem hil
      generalize ls[i] = a at ha
      have g1 := FL_at ll_len ha
      have hb1 := suml_le ls (i + 1)
      have hst := suml_take ha
      have hft := flat_take ha
      have hfl : (ls.take i).flatten.length = suml (ls.take i) := suml_flat _
      repeat' (first | refine st ?_ | refine pblock_en rfl ?_ | (refine ss ?_; intro K_ hK_) | refine vops_gf rfl ?_ | refine vops_gt rfl ?_ | (refine sk ?_; intro k_ hk_; simp only [go_sem, simprocAttr, h25, h26, h27, h6, ilt hil, g1, wrap_succ (n := i) (by omega)]; (with_reducible first | refine hk_ _ _ ?_ | refine hk_ _ ?_); clear hk_ k_) | ((first | refine sg ?_ | refine sc ?_); intro x_ y_ hx_ hy_; simp only [go_sem, simprocAttr, h25, h26, h27, h6, ilt hil, g1, wrap_succ (n := i) (by omega)]; ((first | (with_reducible first | refine hx_ ?_ | refine hy_ ?_) | (with_reducible first | refine bI_split (fun h_ => hx_ ?_) (fun h_ => hy_ ?_) | refine bI_split (fun h_ => hy_ ?_) (fun h_ => hx_ ?_)) <;> try rw [h_]) <;> clear hx_ hy_ x_ y_)) | ((with_reducible first | refine hK_ _ _ ?_ | refine hK_ _ _ _ _ (Weak.refl _ _) ?_); clear hK_ K_) | clear hK_ K_)
      refine vx_append (f := Ar.c) (sz := 6) (H0 := H) (new := a) rfl rfl rfl rfl rfl rfl ar_len hx' hg (by simp only [go_sem, simprocAttr, h6]) (by simp only [go_sem, simprocAttr, FL_len ar_len]) (show ((ls.take i).flatten.length + a.length) * 48 ≤ 70368744177664 by omega) ?_
      intro y' H3 hg3 hx3 _
      repeat' (first | refine st ?_ | refine pblock_en rfl ?_ | (refine ss ?_; intro K_ hK_) | refine vops_gf rfl ?_ | refine vops_gt rfl ?_ | (refine sk ?_; intro k_ hk_; simp only [go_sem, simprocAttr, h25, h26, h27, wrap_succ (n := i) (by omega)]; (with_reducible first | refine hk_ _ _ ?_ | refine hk_ _ ?_); clear hk_ k_) | ((first | refine sg ?_ | refine sc ?_); intro x_ y_ hx_ hy_; simp only [go_sem, simprocAttr, h25, h26, h27, wrap_succ (n := i) (by omega)]; ((first | (with_reducible first | refine hx_ ?_ | refine hy_ ?_) | (with_reducible first | refine bI_split (fun h_ => hx_ ?_) (fun h_ => hy_ ?_) | refine bI_split (fun h_ => hy_ ?_) (fun h_ => hx_ ?_)) <;> try rw [h_]) <;> clear hx_ hy_ x_ y_)) | ((with_reducible first | refine hK_ _ _ ?_ | refine hK_ _ _ _ _ (Weak.refl _ _) ?_); clear hK_ K_) | clear hK_ K_)
      exact ⟨hil, y', (by simp only [go_sem, simprocAttr, h25]), (by simp only [go_sem, simprocAttr, h26]), (by simp only [go_sem, simprocAttr, ]), (by simp only [go_sem, simprocAttr, ]), hx3, by rw [hft]; exact hg3⟩
    · repeat' (first | refine st ?_ | refine pblock_en rfl ?_ | (refine ss ?_; intro K_ hK_) | refine vops_gf rfl ?_ | refine vops_gt rfl ?_ | (refine sk ?_; intro k_ hk_; simp only [go_sem, simprocAttr, h25, h26, h27, h6, ige hil]; (with_reducible first | refine hk_ _ _ ?_ | refine hk_ _ ?_); clear hk_ k_) | ((first | refine sg ?_ | refine sc ?_); intro x_ y_ hx_ hy_; simp only [go_sem, simprocAttr, h25, h26, h27, h6, ige hil]; ((first | (with_reducible first | refine hx_ ?_ | refine hy_ ?_) | (with_reducible first | refine bI_split (fun h_ => hx_ ?_) (fun h_ => hy_ ?_) | refine bI_split (fun h_ => hy_ ?_) (fun h_ => hx_ ?_)) <;> try rw [h_]) <;> clear hx_ hy_ x_ y_)) | ((with_reducible first | refine hK_ _ _ ?_ | refine hK_ _ _ _ _ (Weak.refl _ _) ?_); clear hK_ K_) | clear hK_ K_)
      have : i = ls.length := by omega
      subst this
      rw [List.take_length] at hg
      exact ⟨_, rfl, hg, hx'⟩
theorem concat_c (ls : List (List Ar)) (hl : ls.length < 1000000) (hs : suml ls < 10000000) (H : Heap) : ACalls Try.prog 65 [.s (LV LL ls)] H (.s (LV Ar.c ls.flatten)) H := acalls_of_G ar_pers (concat_g ls hl hs H)
end Go.Abs
/-
  slices.IndexFunc, list.Find.
-/
namespace Go.Abs
set_option linter.unusedVariables false
set_option linter.unusedSimpArgs false
open Go.Proofs
set_option maxHeartbeats 4000000

theorem find1_c (a : Ar) (b : Nat) (n : Int) (H : Heap) (hbn : b < H.n) (hb : H.m b = some { cells := [I n] }) : ACalls Try.prog 67 [.agg a.c, .s (.ptr b 0)] H (.s (Bo (has a n))) H := by
  refine acalls_pure te_ok mix Try.func67 rfl Try.call67 (by kernel_rfl) (by kernel_rfl) rfl rfl ?_; simp only [Try.results67]
  repeat' (first | refine st ?_ | refine pblock_en rfl ?_ | (refine ss ?_; intro K_ hK_) | refine vops_gf rfl ?_ | refine vops_gt rfl ?_ | (refine sk ?_; intro k_ hk_; simp only [go_sem, simprocAttr, hb, nlt hbn, nlt0 hbn]; (with_reducible first | refine hk_ _ _ ?_ | refine hk_ _ ?_); clear hk_ k_) | ((first | refine sg ?_ | refine sc ?_); intro x_ y_ hx_ hy_; simp only [go_sem, simprocAttr, hb, nlt hbn, nlt0 hbn]; ((first | (with_reducible first | refine hx_ ?_ | refine hy_ ?_) | (with_reducible first | refine bI_split (fun h_ => hx_ ?_) (fun h_ => hy_ ?_) | refine bI_split (fun h_ => hy_ ?_) (fun h_ => hx_ ?_)) <;> try rw [h_]) <;> clear hx_ hy_ x_ y_)) | (with_reducible first | refine callv_pure (has_c _ _ _) ?_) | ((with_reducible first | refine hK_ _ _ ?_ | refine hK_ _ _ _ _ (Weak.refl _ _) ?_); clear hK_ K_) | clear hK_ K_)
  exact ⟨rfl, hxt⟩

def idxFrom (p : Ar → Bool) : Nat → List Ar → Int
  | _, [] => -1
  | i, a :: l => if p a then i else idxFrom p (i + 1) l
theorem index_c (l : List Ar) (hl : l.length < 1000000) (g : FuncId) (caps : List (Nat × Nat)) (p : Ar → Bool) (H : Heap) (hp : ∀ a H', HExt H H' → ACalls Try.prog g (.agg a.c :: caps.map fun q => .s (.ptr q.1 q.2)) H' (.s (Bo (p a))) H') :
    ACalls Try.prog 66 [.s (LV Ar.c l), .s (.fn g caps)] H (.s (I (idxFrom p 0 l))) H := by
  refine acalls_pure te_ok mix Try.func66 rfl Try.call66 (by kernel_rfl) (by kernel_rfl) rfl rfl ?_; simp only [Try.results66]
  repeat' (first | refine st ?_ | refine pblock_en rfl ?_ | (refine ss ?_; intro K_ hK_) | refine vops_gf rfl ?_ | refine vops_gt rfl ?_ | (refine sk ?_; intro k_ hk_; simp only [go_sem, simprocAttr]; (with_reducible first | refine hk_ _ _ ?_ | refine hk_ _ ?_); clear hk_ k_) | ((first | refine sg ?_ | refine sc ?_); intro x_ y_ hx_ hy_; simp only [go_sem, simprocAttr]; ((first | (with_reducible first | refine hx_ ?_ | refine hy_ ?_) | (with_reducible first | refine bI_split (fun h_ => hx_ ?_) (fun h_ => hy_ ?_) | refine bI_split (fun h_ => hy_ ?_) (fun h_ => hx_ ?_)) <;> try rw [h_]) <;> clear hx_ hy_ x_ y_)) | ((with_reducible first | refine hK_ _ _ ?_ | refine hK_ _ _ _ _ (Weak.refl _ _) ?_); clear hK_ K_) | clear hK_ K_)
  refine vc_range l.length (fun i σ' H' => σ' 0 = .s (LV Ar.c l) ∧ σ' 1 = .s (.fn g caps) ∧ σ' 7 = .s (I l.length) ∧ σ' 8 = .s (I i) ∧ HExt H H' ∧ idxFrom p 0 l = idxFrom p i (l.drop i)) ⟨rfl, rfl, rfl, rfl, HExt.refl _, rfl⟩ ?_
  rintro i σ' H' hi ⟨h0, h1, h7, h8, hx', hr⟩
  by_cases hil : i < l.length
  · have ha : l[i]? = some l[i] := List.getElem?_eq_getElem hil
    generalize l[i] = a at ha
    have g1 := FL_at ar_len ha
    rw [drop_at ha, idxFrom] at hr
    repeat' (first | refine st ?_ | refine pblock_en rfl ?_ | (refine ss ?_; intro K_ hK_) | refine vops_gf rfl ?_ | refine vops_gt rfl ?_ | (refine sk ?_; intro k_ hk_; simp only [go_sem, simprocAttr, h0, h1, h7, h8, ilt hil, g1]; (with_reducible first | refine hk_ _ _ ?_ | refine hk_ _ ?_); clear hk_ k_) | ((first | refine sg ?_ | refine sc ?_); intro x_ y_ hx_ hy_; simp only [go_sem, simprocAttr, h0, h1, h7, h8, ilt hil, g1]; ((first | (with_reducible first | refine hx_ ?_ | refine hy_ ?_) | (with_reducible first | refine bI_split (fun h_ => hx_ ?_) (fun h_ => hy_ ?_) | refine bI_split (fun h_ => hy_ ?_) (fun h_ => hx_ ?_)) <;> try rw [h_]) <;> clear hx_ hy_ x_ y_)) | ((with_reducible first | refine hK_ _ _ ?_ | refine hK_ _ _ _ _ (Weak.refl _ _) ?_); clear hK_ K_) | clear hK_ K_)
    refine vx_callf (f := g) (caps := caps) (by simp only [go_sem, simprocAttr, h1]) (cs := [.agg a.c]) (by simp only [go_sem, simprocAttr, cmps, AV.cmp]) ?_
    refine callv_pure (hp a _ hxt) ?_
    repeat' (first | refine st ?_ | refine pblock_en rfl ?_ | (refine ss ?_; intro K_ hK_) | refine vops_gf rfl ?_ | refine vops_gt rfl ?_ | (refine sk ?_; intro k_ hk_; simp only [go_sem, simprocAttr, h0, h1, h7, h8, wrap_succ (n := i) (by omega)]; (with_reducible first | refine hk_ _ _ ?_ | refine hk_ _ ?_); clear hk_ k_) | ((first | refine sg ?_ | refine sc ?_); intro x_ y_ hx_ hy_; simp only [go_sem, simprocAttr, h0, h1, h7, h8, wrap_succ (n := i) (by omega)]; ((first | (with_reducible first | refine hx_ ?_ | refine hy_ ?_) | (with_reducible first | refine bI_split (fun h_ => hx_ ?_) (fun h_ => hy_ ?_) | refine bI_split (fun h_ => hy_ ?_) (fun h_ => hx_ ?_)) <;> try rw [h_]) <;> clear hx_ hy_ x_ y_)) | ((with_reducible first | refine hK_ _ _ ?_ | refine hK_ _ _ _ _ (Weak.refl _ _) ?_); clear hK_ K_) | clear hK_ K_)
    all_goals first | refine ⟨hil, (by simp only [go_sem, simprocAttr, h0]), (by simp only [go_sem, simprocAttr, h1]), (by simp only [go_sem, simprocAttr, h7]), (by simp only [go_sem, simprocAttr, ]), hxt, ?_⟩ | refine ⟨?_, hxt⟩
    all_goals simp_all
  · repeat' (first | refine st ?_ | refine pblock_en rfl ?_ | (refine ss ?_; intro K_ hK_) | refine vops_gf rfl ?_ | refine vops_gt rfl ?_ | (refine sk ?_; intro k_ hk_; simp only [go_sem, simprocAttr, h0, h1, h7, h8, ige hil]; (with_reducible first | refine hk_ _ _ ?_ | refine hk_ _ ?_); clear hk_ k_) | ((first | refine sg ?_ | refine sc ?_); intro x_ y_ hx_ hy_; simp only [go_sem, simprocAttr, h0, h1, h7, h8, ige hil]; ((first | (with_reducible first | refine hx_ ?_ | refine hy_ ?_) | (with_reducible first | refine bI_split (fun h_ => hx_ ?_) (fun h_ => hy_ ?_) | refine bI_split (fun h_ => hy_ ?_) (fun h_ => hx_ ?_)) <;> try rw [h_]) <;> clear hx_ hy_ x_ y_)) | ((with_reducible first | refine hK_ _ _ ?_ | refine hK_ _ _ _ _ (Weak.refl _ _) ?_); clear hK_ K_) | clear hK_ K_)
    have : i = l.length := by omega
    subst this
    refine ⟨?_, hxt⟩
    rw [hr]; simp [idxFrom]
theorem idx_find (p : Ar → Bool) : ∀ (l : List Ar) (k : Nat), (l.find? p = none ∧ idxFrom p k l = -1) ∨ ∃ i a, idxFrom p k l = ((k + i : Nat) : Int) ∧ l[i]? = some a ∧ l.find? p = some a
  | [], k => .inl ⟨rfl, rfl⟩
  | a :: l, k => by
    by_cases h : p a
    · exact .inr ⟨0, a, by simp [idxFrom, h], rfl, by simp [h]⟩
    · rcases idx_find p l (k + 1) with ⟨h1, h2⟩ | ⟨i, b, h1, h2, h3⟩
      · exact .inl ⟨by simp [h, h1], by simp [idxFrom, h, h2]⟩
      · exact .inr ⟨i + 1, b, by simp [idxFrom, h, h1]; omega, by simpa using h2, by simp [h, h3]⟩

theorem find_c (l : List Ar) (hl : l.length < 1000000) (n : Int) (H : Heap) : ACalls Try.prog 33 [.s (LV Ar.c l), .s (I n)] H (.tup [.agg ((findS l n).getD Ar.zero).c, .s (Bo (findS l n).isSome)]) H := by
  refine acalls_pure te_ok mix Try.func33 rfl Try.call33 (by kernel_rfl) (by kernel_rfl) rfl rfl ?_; simp only [Try.results33]
  repeat' (first | refine st ?_ | refine pblock_en rfl ?_ | (refine ss ?_; intro K_ hK_) | refine vops_gf rfl ?_ | refine vops_gt rfl ?_ | (refine sk ?_; intro k_ hk_; simp only [go_sem, simprocAttr]; (with_reducible first | refine hk_ _ _ ?_ | refine hk_ _ ?_); clear hk_ k_) | ((first | refine sg ?_ | refine sc ?_); intro x_ y_ hx_ hy_; simp only [go_sem, simprocAttr]; ((first | (with_reducible first | refine hx_ ?_ | refine hy_ ?_) | (with_reducible first | refine bI_split (fun h_ => hx_ ?_) (fun h_ => hy_ ?_) | refine bI_split (fun h_ => hy_ ?_) (fun h_ => hx_ ?_)) <;> try rw [h_]) <;> clear hx_ hy_ x_ y_)) | ((with_reducible first | refine hK_ _ _ ?_ | refine hK_ _ _ _ _ (Weak.refl _ _) ?_); clear hK_ K_) | clear hK_ K_)
  refine callv_pure (index_c l hl 67 [(H.n, 0)] (fun a => has a n) _ ?_) ?_
  · intro a H' hx
    refine find1_c a H.n n H' ?_ ?_
    · have := hx.1; simp only [Heap.push_n] at this; omega
    · rw [hx.2 H.n (by simp only [Heap.push_n]; omega)]; simp [push_m]
  have hr := right_c l hl
  rcases idx_find (fun a => has a n) l 0 with ⟨h1, h2⟩ | ⟨i, a, h1, h2, h3⟩
  · have e : findS l n = none := by unfold findS; rw [h1]; simp
    repeat' (first | refine st ?_ | refine pblock_en rfl ?_ | (refine ss ?_; intro K_ hK_) | refine vops_gf rfl ?_ | refine vops_gt rfl ?_ | (refine sk ?_; intro k_ hk_; simp only [go_sem, simprocAttr, h2]; (with_reducible first | refine hk_ _ _ ?_ | refine hk_ _ ?_); clear hk_ k_) | ((first | refine sg ?_ | refine sc ?_); intro x_ y_ hx_ hy_; simp only [go_sem, simprocAttr, h2]; ((first | (with_reducible first | refine hx_ ?_ | refine hy_ ?_) | (with_reducible first | refine bI_split (fun h_ => hx_ ?_) (fun h_ => hy_ ?_) | refine bI_split (fun h_ => hy_ ?_) (fun h_ => hx_ ?_)) <;> try rw [h_]) <;> clear hx_ hy_ x_ y_)) | (with_reducible first | refine callv_pure (right_c l hl _) ?_) | ((with_reducible first | refine hK_ _ _ ?_ | refine hK_ _ _ _ _ (Weak.refl _ _) ?_); clear hK_ K_) | clear hK_ K_)
    all_goals refine ⟨?_, hxt⟩
    all_goals (rw [e]; rfl)
  · have hil : i < l.length := (List.getElem?_eq_some_iff.1 h2).1
    have g1 := FL_at ar_len h2
    rw [Nat.zero_add] at h1
    have h4 : ((i : Int) ≥ 0) = True := by simp
    have e : findS l n = if right l then some a else none := by unfold findS; rw [h3]
    repeat' (first | refine st ?_ | refine pblock_en rfl ?_ | (refine ss ?_; intro K_ hK_) | refine vops_gf rfl ?_ | refine vops_gt rfl ?_ | (refine sk ?_; intro k_ hk_; simp only [go_sem, simprocAttr, h1, h4, ilt hil, g1]; (with_reducible first | refine hk_ _ _ ?_ | refine hk_ _ ?_); clear hk_ k_) | ((first | refine sg ?_ | refine sc ?_); intro x_ y_ hx_ hy_; simp only [go_sem, simprocAttr, h1, h4, ilt hil, g1]; ((first | (with_reducible first | refine hx_ ?_ | refine hy_ ?_) | (with_reducible first | refine bI_split (fun h_ => hx_ ?_) (fun h_ => hy_ ?_) | refine bI_split (fun h_ => hy_ ?_) (fun h_ => hx_ ?_)) <;> try rw [h_]) <;> clear hx_ hy_ x_ y_)) | (with_reducible first | refine callv_pure (right_c l hl _) ?_) | ((with_reducible first | refine hK_ _ _ ?_ | refine hK_ _ _ _ _ (Weak.refl _ _) ?_); clear hK_ K_) | clear hK_ K_)
    all_goals refine ⟨?_, hxt⟩
    all_goals simp_all [Ar.zero]
end Go.Abs
/-
  list.Cut, list.Put, list.Set.
-/
namespace Go.Abs
set_option linter.unusedVariables false
set_option linter.unusedSimpArgs false
open Go.Proofs
set_option maxHeartbeats 4000000

theorem ahead_len (l : List Ar) (lo hi : Int) : (aheadS l lo hi).length ≤ l.length := by
  unfold aheadS; split
  · exact fm_len _ _
  · exact Nat.le_refl _
theorem behind_len (l : List Ar) (lo hi : Int) : (behindS l lo hi).length ≤ l.length := by
  unfold behindS; split
  · exact fm_len _ _
  · simp
theorem cut_c (l : List Ar) (hl : l.length < 100000) (lo hi : Int) (H : Heap) : ACalls Try.prog 45 [.s (LV Ar.c l), .s (I lo), .s (I hi)] H (.s (LV Ar.c (cutS l lo hi))) H := by
  have hl' : l.length < 1000000 := by omega
  refine acalls_fz te_ok mix Try.func45 rfl Try.call45 (by kernel_rfl) (by kernel_rfl) rfl ?_; simp only [Try.results45]
  repeat' (first | refine st ?_ | refine pblock_en rfl ?_ | (refine ss ?_; intro K_ hK_) | refine vops_gf rfl ?_ | refine vops_gt rfl ?_ | (refine sk ?_; intro k_ hk_; simp only [go_sem, simprocAttr]; (with_reducible first | refine hk_ _ _ ?_ | refine hk_ _ ?_); clear hk_ k_) | ((first | refine sg ?_ | refine sc ?_); intro x_ y_ hx_ hy_; simp only [go_sem, simprocAttr]; ((first | (with_reducible first | refine hx_ ?_ | refine hy_ ?_) | (with_reducible first | refine bI_split (fun h_ => hx_ ?_) (fun h_ => hy_ ?_) | refine bI_split (fun h_ => hy_ ?_) (fun h_ => hx_ ?_)) <;> try rw [h_]) <;> clear hx_ hy_ x_ y_)) | (with_reducible first | refine callv_pure (right_c l hl' _) ?_ | refine callv_pure (around_c l hl' _ _ _) ?_) | ((with_reducible first | refine hK_ _ _ ?_ | refine hK_ _ _ _ _ (Weak.refl _ _) ?_); clear hK_ K_) | clear hK_ K_)
  all_goals first
    | (have e : cutS l lo hi = [] := by (unfold cutS; simp [*]; done)
       rw [e]; exact ⟨HExt.refl _, _, .inr (.inl ⟨rfl, rfl, rfl⟩)⟩)
    | skip
  have e : cutS l lo hi = aheadS l lo hi ++ behindS l lo hi := by unfold cutS; simp [*]
  have h1 := ahead_len l lo hi
  have h2 := behind_len l lo hi
  generalize aheadS l lo hi = A at e h1
  generalize behindS l lo hi = C at e h2
  refine callv_deep (cells' := FL LL [A, C]) (Heap.push_same _ _) rfl ⟨_, .inl ⟨rfl, rfl, rfl⟩, _, .inl ⟨rfl, rfl, rfl⟩, rfl⟩ (Heap.push_same _ _) ?_
  refine callv_pure (concat_c [A, C] (by simp) (by simp [suml]; omega) _) ?_
  repeat' (first | refine st ?_ | refine pblock_en rfl ?_ | (refine ss ?_; intro K_ hK_) | refine vops_gf rfl ?_ | refine vops_gt rfl ?_ | (refine sk ?_; intro k_ hk_; simp only [go_sem, simprocAttr]; (with_reducible first | refine hk_ _ _ ?_ | refine hk_ _ ?_); clear hk_ k_) | ((first | refine sg ?_ | refine sc ?_); intro x_ y_ hx_ hy_; simp only [go_sem, simprocAttr]; ((first | (with_reducible first | refine hx_ ?_ | refine hy_ ?_) | (with_reducible first | refine bI_split (fun h_ => hx_ ?_) (fun h_ => hy_ ?_) | refine bI_split (fun h_ => hy_ ?_) (fun h_ => hx_ ?_)) <;> try rw [h_]) <;> clear hx_ hy_ x_ y_)) | ((with_reducible first | refine hK_ _ _ ?_ | refine hK_ _ _ _ _ (Weak.refl _ _) ?_); clear hK_ K_) | clear hK_ K_)
  rw [e]
  exact ⟨hxt, frz_self (by simp) rfl⟩
theorem put_c (l : List Ar) (hl : l.length < 100000) (a : Ar) (H : Heap) : ACalls Try.prog 39 [.s (LV Ar.c l), .agg a.c] H (.s (LV Ar.c (putS l a))) H := by
  have hl' : l.length < 1000000 := by omega
  refine acalls_fz te_ok mix Try.func39 rfl Try.call39 (by kernel_rfl) (by kernel_rfl) rfl ?_; simp only [Try.results39]
  repeat' (first | refine st ?_ | refine pblock_en rfl ?_ | (refine ss ?_; intro K_ hK_) | refine vops_gf rfl ?_ | refine vops_gt rfl ?_ | (refine sk ?_; intro k_ hk_; simp only [go_sem, simprocAttr]; (with_reducible first | refine hk_ _ _ ?_ | refine hk_ _ ?_); clear hk_ k_) | ((first | refine sg ?_ | refine sc ?_); intro x_ y_ hx_ hy_; simp only [go_sem, simprocAttr]; ((first | (with_reducible first | refine hx_ ?_ | refine hy_ ?_) | (with_reducible first | refine bI_split (fun h_ => hx_ ?_) (fun h_ => hy_ ?_) | refine bI_split (fun h_ => hy_ ?_) (fun h_ => hx_ ?_)) <;> try rw [h_]) <;> clear hx_ hy_ x_ y_)) | (with_reducible first | refine callv_pure (right_c l hl' _) ?_ | refine callv_pure (formed_c _ _) ?_ | refine callv_pure (around_c l hl' _ _ _) ?_) | ((with_reducible first | refine hK_ _ _ ?_ | refine hK_ _ _ _ _ (Weak.refl _ _) ?_); clear hK_ K_) | clear hK_ K_)
  all_goals first
    | (have e : putS l a = [] := by (unfold putS; simp [*]; done)
       rw [e]; exact ⟨hxt, _, .inr (.inl ⟨rfl, rfl, rfl⟩)⟩)
    | skip
  have e : putS l a = joinedS (aheadS l a.s a.e ++ a :: behindS l a.s a.e) := by unfold putS; simp [*]
  have h1 := ahead_len l a.s a.e
  have h2 := behind_len l a.s a.e
  generalize aheadS l a.s a.e = A at e h1
  generalize behindS l a.s a.e = C at e h2
  have hlen : (A ++ a :: C).length < 1000000 := by simp; omega
  refine callv_deep (cells' := FL LL [A, [a], C]) (Heap.push_same _ _) rfl ⟨_, .inl ⟨rfl, rfl, rfl⟩, _, .inr (.inr ⟨H.n + 1, 0, 1, true, { cells := a.c, esz := 6 }, 6, rfl, Nat.zero_le _, ?_, rfl, ?_, ?_, rfl⟩), _, .inl ⟨rfl, rfl, rfl⟩, rfl⟩ ?_ ?_
  · simp [push_m]
  · exact List.all_eq_true.1 (ar_pers a)
  · simp only [FL_one]; rfl
  · simp [push_m, set_m]
  refine callv_pure (concat_c [A, [a], C] (by simp) (by simp [suml]; omega) _) ?_
  have e2 : [A, [a], C].flatten = A ++ a :: C := by simp
  rw [e2]
  repeat' (first | refine st ?_ | refine pblock_en rfl ?_ | (refine ss ?_; intro K_ hK_) | refine vops_gf rfl ?_ | refine vops_gt rfl ?_ | (refine sk ?_; intro k_ hk_; simp only [go_sem, simprocAttr]; (with_reducible first | refine hk_ _ _ ?_ | refine hk_ _ ?_); clear hk_ k_) | ((first | refine sg ?_ | refine sc ?_); intro x_ y_ hx_ hy_; simp only [go_sem, simprocAttr]; ((first | (with_reducible first | refine hx_ ?_ | refine hy_ ?_) | (with_reducible first | refine bI_split (fun h_ => hx_ ?_) (fun h_ => hy_ ?_) | refine bI_split (fun h_ => hy_ ?_) (fun h_ => hx_ ?_)) <;> try rw [h_]) <;> clear hx_ hy_ x_ y_)) | (with_reducible first | refine callv_pure (joined_c _ hlen _) ?_) | ((with_reducible first | refine hK_ _ _ ?_ | refine hK_ _ _ _ _ (Weak.refl _ _) ?_); clear hK_ K_) | clear hK_ K_)
  rw [e]
  exact ⟨hxt, frz_self rfl rfl⟩

def setP (p : Int) (a : Ar) : Ar := { a with p := p }
theorem set_c (l : List Ar) (hl : l.length < 100000) (lo hi p : Int) (H : Heap) : ACalls Try.prog 31 [.s (LV Ar.c l), .s (I lo), .s (I hi), .s (I p)] H (.s (LV Ar.c (setS l lo hi p))) H := by
  have hl' : l.length < 1000000 := by omega
  by_cases hgood : right l = true ∧ 0 ≤ p ∧ p ≤ 7
  · obtain ⟨hr, hp0, hp7⟩ := hgood
    have f0 : (p < 0) = False := by simp; omega
    have f7 : (p > 7) = False := by simp; omega
    refine acalls_fz te_ok mix Try.func31 rfl Try.call31 (by kernel_rfl) (by kernel_rfl) rfl ?_; simp only [Try.results31]
    repeat' (first | refine st ?_ | refine pblock_en rfl ?_ | (refine ss ?_; intro K_ hK_) | refine vops_gf rfl ?_ | refine vops_gt rfl ?_ | (refine sk ?_; intro k_ hk_; simp only [go_sem, simprocAttr, hr, f0, f7]; (with_reducible first | refine hk_ _ _ ?_ | refine hk_ _ ?_); clear hk_ k_) | (refine sg ?_; intro x_ y_ hx_ hy_; simp only [go_sem, simprocAttr, hr, f0, f7]; ((first | (with_reducible first | refine hx_ ?_ | refine hy_ ?_) | (with_reducible first | refine bI_split (fun h_ => hx_ ?_) (fun h_ => hy_ ?_) | refine bI_split (fun h_ => hy_ ?_) (fun h_ => hx_ ?_)) <;> try rw [h_]) <;> clear hx_ hy_ x_ y_)) | (with_reducible first | refine callv_pure (right_c l hl' _) ?_) | ((with_reducible first | refine hK_ _ _ ?_ | refine hK_ _ _ _ _ (Weak.refl _ _) ?_); clear hK_ K_) | clear hK_ K_)
    (refine sc ?_; intro x_ y_ hx_ hy_; simp only [go_sem, simprocAttr, hr, f0, f7]; ((first | (with_reducible first | refine hx_ ?_ | refine hy_ ?_) | (with_reducible first | refine bI_split (fun h_ => hx_ ?_) (fun h_ => hy_ ?_) | refine bI_split (fun h_ => hy_ ?_) (fun h_ => hx_ ?_)) <;> try rw [h_]) <;> clear hx_ hy_ x_ y_))
    repeat' (first | refine st ?_ | refine pblock_en rfl ?_ | (refine ss ?_; intro K_ hK_) | refine vops_gf rfl ?_ | refine vops_gt rfl ?_ | (refine sk ?_; intro k_ hk_; simp only [go_sem, simprocAttr, hr, f0, f7]; (with_reducible first | refine hk_ _ _ ?_ | refine hk_ _ ?_); clear hk_ k_) | (refine sg ?_; intro x_ y_ hx_ hy_; simp only [go_sem, simprocAttr, hr, f0, f7]; ((first | (with_reducible first | refine hx_ ?_ | refine hy_ ?_) | (with_reducible first | refine bI_split (fun h_ => hx_ ?_) (fun h_ => hy_ ?_) | refine bI_split (fun h_ => hy_ ?_) (fun h_ => hx_ ?_)) <;> try rw [h_]) <;> clear hx_ hy_ x_ y_)) | (with_reducible first | refine callv_pure (around_c l hl' _ _ _) ?_) | ((with_reducible first | refine hK_ _ _ ?_ | refine hK_ _ _ _ _ (Weak.refl _ _) ?_); clear hK_ K_) | clear hK_ K_)
    have e : setS l lo hi p = joinedS (aheadS l lo hi ++ ((if lo < hi then withinS l lo hi else []).map (setP p) ++ behindS l lo hi)) := by
      unfold setS; simp only [hr, hp0, hp7, decide_true, Bool.and_true, if_true]; rfl
    have h1 := ahead_len l lo hi
    have h2 := behind_len l lo hi
    have h3 := within_len l lo hi
    generalize aheadS l lo hi = A at e h1
    generalize behindS l lo hi = C at e h2
    have hloop : ∀ σ0 H0 y ps, σ0 3 = .s (I p) → σ0 9 = .s (LV Ar.c A) → σ0 10 = .s (LV Ar.c C) → σ0 11 = .s y → HExt H H0 → IsG Ar.c 6 H.n H0 y ps → ps.length < 100000 → setS l lo hi p = joinedS (A ++ (ps.map (setP p) ++ C)) → K_ σ0 H0 := by
      intro σ0 H0 y ps s3 s9 s10 s11 hx hg hps e
      refine hK_ _ _ _ _ (Weak.refl _ _) ?_
      clear hK_ K_
      have hlen : (A ++ (ps.map (setP p) ++ C)).length < 1000000 := by simp; omega
      have e2 : [A, ps.map (setP p), C].flatten = A ++ (ps.map (setP p) ++ C) := by simp
      rcases hg with ⟨rfl, g0, -⟩ | ⟨c, rfl, hc0, hcn, hc⟩
      · have g0 := List.length_eq_zero_iff.1 g0
        subst g0
        repeat' (first | refine st ?_ | refine pblock_en rfl ?_ | (refine ss ?_; intro K_ hK_) | refine vops_gf rfl ?_ | refine vops_gt rfl ?_ | (refine sk ?_; intro k_ hk_; simp only [go_sem, simprocAttr, s3, s9, s10, s11]; (with_reducible first | refine hk_ _ _ ?_ | refine hk_ _ ?_); clear hk_ k_) | ((first | refine sg ?_ | refine sc ?_); intro x_ y_ hx_ hy_; simp only [go_sem, simprocAttr, s3, s9, s10, s11]; ((first | (with_reducible first | refine hx_ ?_ | refine hy_ ?_) | (with_reducible first | refine bI_split (fun h_ => hx_ ?_) (fun h_ => hy_ ?_) | refine bI_split (fun h_ => hy_ ?_) (fun h_ => hx_ ?_)) <;> try rw [h_]) <;> clear hx_ hy_ x_ y_)) | ((with_reducible first | refine hK_ _ _ ?_ | refine hK_ _ _ _ _ (Weak.refl _ _) ?_); clear hK_ K_) | clear hK_ K_)
        refine vc_range 0 (fun i σ' H' => σ' 9 = .s (LV Ar.c A) ∧ σ' 10 = .s (LV Ar.c C) ∧ σ' 11 = .s (.raw (.slice none 0 0)) ∧ σ' 39 = .s (I 0) ∧ σ' 40 = .s (I i) ∧ HExt H H') ⟨(by simp only [go_sem, simprocAttr, s9]), (by simp only [go_sem, simprocAttr, s10]), (by simp only [go_sem, simprocAttr, s11]), rfl, rfl, hx⟩ ?_
        rintro i σ' H' hi' ⟨k9, k10, k11, k39, k40, hx'⟩
        obtain rfl : i = 0 := by omega
        have hn' := hx'.1
        repeat' (first | refine st ?_ | refine pblock_en rfl ?_ | (refine ss ?_; intro K_ hK_) | refine vops_gf rfl ?_ | refine vops_gt rfl ?_ | (refine sk ?_; intro k_ hk_; simp only [go_sem, simprocAttr, k9, k10, k11, k39, k40]; (with_reducible first | refine hk_ _ _ ?_ | refine hk_ _ ?_); clear hk_ k_) | ((first | refine sg ?_ | refine sc ?_); intro x_ y_ hx_ hy_; simp only [go_sem, simprocAttr, k9, k10, k11, k39, k40]; ((first | (with_reducible first | refine hx_ ?_ | refine hy_ ?_) | (with_reducible first | refine bI_split (fun h_ => hx_ ?_) (fun h_ => hy_ ?_) | refine bI_split (fun h_ => hy_ ?_) (fun h_ => hx_ ?_)) <;> try rw [h_]) <;> clear hx_ hy_ x_ y_)) | ((with_reducible first | refine hK_ _ _ ?_ | refine hK_ _ _ _ _ (Weak.refl _ _) ?_); clear hK_ K_) | clear hK_ K_)
        refine callv_deep (cells' := FL LL [A, [], C]) (Heap.push_same _ _) rfl ⟨_, .inl ⟨rfl, rfl, rfl⟩, _, .inr (.inl ⟨rfl, rfl, rfl⟩), _, .inl ⟨rfl, rfl, rfl⟩, rfl⟩ (Heap.push_same _ _) ?_
        refine callv_pure (concat_c [A, [], C] (by simp) (by simp [suml]; omega) _) ?_
        simp only [List.map_nil, List.nil_append] at e2 hlen e
        rw [e2]
        repeat' (first | refine st ?_ | refine pblock_en rfl ?_ | (refine ss ?_; intro K_ hK_) | refine vops_gf rfl ?_ | refine vops_gt rfl ?_ | (refine sk ?_; intro k_ hk_; simp only [go_sem, simprocAttr]; (with_reducible first | refine hk_ _ _ ?_ | refine hk_ _ ?_); clear hk_ k_) | ((first | refine sg ?_ | refine sc ?_); intro x_ y_ hx_ hy_; simp only [go_sem, simprocAttr]; ((first | (with_reducible first | refine hx_ ?_ | refine hy_ ?_) | (with_reducible first | refine bI_split (fun h_ => hx_ ?_) (fun h_ => hy_ ?_) | refine bI_split (fun h_ => hy_ ?_) (fun h_ => hx_ ?_)) <;> try rw [h_]) <;> clear hx_ hy_ x_ y_)) | (with_reducible first | refine callv_pure (joined_c _ hlen _) ?_) | ((with_reducible first | refine hK_ _ _ ?_ | refine hK_ _ _ _ _ (Weak.refl _ _) ?_); clear hK_ K_) | clear hK_ K_)
        rw [e]
        exact ⟨hxt, frz_self rfl rfl⟩
      · have f1 : ps.length < 1000000 := by omega
        repeat' (first | refine st ?_ | refine pblock_en rfl ?_ | (refine ss ?_; intro K_ hK_) | refine vops_gf rfl ?_ | refine vops_gt rfl ?_ | (refine sk ?_; intro k_ hk_; simp only [go_sem, simprocAttr, s3, s9, s10, s11, hc, nlt hcn, nlt0 hcn]; (with_reducible first | refine hk_ _ _ ?_ | refine hk_ _ ?_); clear hk_ k_) | ((first | refine sg ?_ | refine sc ?_); intro x_ y_ hx_ hy_; simp only [go_sem, simprocAttr, s3, s9, s10, s11, hc, nlt hcn, nlt0 hcn]; ((first | (with_reducible first | refine hx_ ?_ | refine hy_ ?_) | (with_reducible first | refine bI_split (fun h_ => hx_ ?_) (fun h_ => hy_ ?_) | refine bI_split (fun h_ => hy_ ?_) (fun h_ => hx_ ?_)) <;> try rw [h_]) <;> clear hx_ hy_ x_ y_)) | ((with_reducible first | refine hK_ _ _ ?_ | refine hK_ _ _ _ _ (Weak.refl _ _) ?_); clear hK_ K_) | clear hK_ K_)
        refine vc_range ps.length (fun i σ' H' => σ' 3 = .s (I p) ∧ σ' 9 = .s (LV Ar.c A) ∧ σ' 10 = .s (LV Ar.c C) ∧ σ' 11 = .s (.sl c 0 ps.length true) ∧ σ' 39 = .s (I ps.length) ∧ σ' 40 = .s (I i) ∧ HExt H H' ∧ c < H'.n ∧ H'.m c = some { cells := FL Ar.c ((ps.take i).map (setP p) ++ ps.drop i), esz := 6, wr := true }) ⟨(by simp only [go_sem, simprocAttr, s3]), (by simp only [go_sem, simprocAttr, s9]), (by simp only [go_sem, simprocAttr, s10]), (by simp only [go_sem, simprocAttr, s11]), rfl, rfl, hx, hcn, by simpa using hc⟩ ?_
        clear s3 s9 s10 s11 hc hcn hx
        rintro i σ' H' hi' ⟨k3, k9, k10, k11, k39, k40, hx', hcn, hc⟩
        have hn' := hx'.1
        by_cases hil : i < ps.length
        · have ha : ps[i]? = some ps[i] := List.getElem?_eq_getElem hil
          generalize ps[i] = a at ha
          have hti : ((ps.take i).map (setP p)).length = i := by simp; omega
          have hcur : ((ps.take i).map (setP p) ++ ps.drop i)[i]? = some a := by
            rw [List.getElem?_append_right (by omega), hti, Nat.sub_self, List.getElem?_drop]; simpa using ha
          have hset := FL_set (f := Ar.c) ar_len hcur (j := 2) (b := setP p a) (x := I p) (by omega) rfl
          have hnext : ((ps.take i).map (setP p) ++ ps.drop i).set i (setP p a) = (ps.take (i + 1)).map (setP p) ++ ps.drop (i + 1) := by
            rw [List.set_append_right _ _ (by omega), hti, Nat.sub_self, drop_at ha, List.take_add_one, ha]; simp
          rw [hnext] at hset
          have hlen2 : (FL Ar.c ((ps.take i).map (setP p) ++ ps.drop i)).length = ps.length * 6 := by
            rw [FL_len ar_len]; simp; omega
          have hcl : i * 6 + 3 ≤ ps.length * 6 := by omega
          repeat' (first | refine st ?_ | refine pblock_en rfl ?_ | (refine ss ?_; intro K_ hK_) | refine vops_gf rfl ?_ | refine vops_gt rfl ?_ | (refine sk ?_; intro k_ hk_; simp only [go_sem, simprocAttr, k3, k9, k10, k11, k39, k40, hc, nlt hcn, nlt0 hcn, ilt hil, hlen2, hcl, hset, wrap_succ (n := i) (by omega)]; (with_reducible first | refine hk_ _ _ ?_ | refine hk_ _ ?_); clear hk_ k_) | ((first | refine sg ?_ | refine sc ?_); intro x_ y_ hx_ hy_; simp only [go_sem, simprocAttr, k3, k9, k10, k11, k39, k40, hc, nlt hcn, nlt0 hcn, ilt hil, hlen2, hcl, hset, wrap_succ (n := i) (by omega)]; ((first | (with_reducible first | refine hx_ ?_ | refine hy_ ?_) | (with_reducible first | refine bI_split (fun h_ => hx_ ?_) (fun h_ => hy_ ?_) | refine bI_split (fun h_ => hy_ ?_) (fun h_ => hx_ ?_)) <;> try rw [h_]) <;> clear hx_ hy_ x_ y_)) | ((with_reducible first | refine hK_ _ _ ?_ | refine hK_ _ _ _ _ (Weak.refl _ _) ?_); clear hK_ K_) | clear hK_ K_)
          exact ⟨hil, (by simp only [go_sem, simprocAttr, k3]), (by simp only [go_sem, simprocAttr, k9]), (by simp only [go_sem, simprocAttr, k10]), (by simp only [go_sem, simprocAttr, k11]), (by simp only [go_sem, simprocAttr, k39]), (by simp only [go_sem, simprocAttr, ]), hxt, hcn, by simp [set_m]⟩
        · obtain rfl : i = ps.length := by omega
          rw [List.take_length, List.drop_length, List.append_nil] at hc
          repeat' (first | refine st ?_ | refine pblock_en rfl ?_ | (refine ss ?_; intro K_ hK_) | refine vops_gf rfl ?_ | refine vops_gt rfl ?_ | (refine sk ?_; intro k_ hk_; simp only [go_sem, simprocAttr, k3, k9, k10, k11, k39, k40, ige hil]; (with_reducible first | refine hk_ _ _ ?_ | refine hk_ _ ?_); clear hk_ k_) | ((first | refine sg ?_ | refine sc ?_); intro x_ y_ hx_ hy_; simp only [go_sem, simprocAttr, k3, k9, k10, k11, k39, k40, ige hil]; ((first | (with_reducible first | refine hx_ ?_ | refine hy_ ?_) | (with_reducible first | refine bI_split (fun h_ => hx_ ?_) (fun h_ => hy_ ?_) | refine bI_split (fun h_ => hy_ ?_) (fun h_ => hx_ ?_)) <;> try rw [h_]) <;> clear hx_ hy_ x_ y_)) | ((with_reducible first | refine hK_ _ _ ?_ | refine hK_ _ _ _ _ (Weak.refl _ _) ?_); clear hK_ K_) | clear hK_ K_)
          refine callv_deep (cells' := FL LL [A, ps.map (setP p), C]) (Heap.push_same _ _) rfl ⟨_, .inl ⟨rfl, rfl, rfl⟩, _, .inr (.inr ⟨c, 0, ps.length, true, { cells := FL Ar.c (ps.map (setP p)), esz := 6 }, ps.length * 6, rfl, Nat.zero_le _, ?_, rfl, FL_pers ar_pers _, ?_, rfl⟩), _, .inl ⟨rfl, rfl, rfl⟩, rfl⟩ ?_ ?_
          · simp [push_m, nlt0 hcn, hc]
          · have h6 : (FL Ar.c (ps.map (setP p))).take (ps.length * 6) = FL Ar.c (ps.map (setP p)) := List.take_of_length_le (by rw [FL_len ar_len]; simp)
            simp only [List.drop_zero, h6]
            simp [LV]
          · simp only [set_m, push_m]
            have : ¬ H'.n = c := by omega
            simp [this]
          refine callv_pure (concat_c [A, ps.map (setP p), C] (by simp) (by simp [suml]; omega) _) ?_
          rw [e2]
          repeat' (first | refine st ?_ | refine pblock_en rfl ?_ | (refine ss ?_; intro K_ hK_) | refine vops_gf rfl ?_ | refine vops_gt rfl ?_ | (refine sk ?_; intro k_ hk_; simp only [go_sem, simprocAttr]; (with_reducible first | refine hk_ _ _ ?_ | refine hk_ _ ?_); clear hk_ k_) | ((first | refine sg ?_ | refine sc ?_); intro x_ y_ hx_ hy_; simp only [go_sem, simprocAttr]; ((first | (with_reducible first | refine hx_ ?_ | refine hy_ ?_) | (with_reducible first | refine bI_split (fun h_ => hx_ ?_) (fun h_ => hy_ ?_) | refine bI_split (fun h_ => hy_ ?_) (fun h_ => hx_ ?_)) <;> try rw [h_]) <;> clear hx_ hy_ x_ y_)) | (with_reducible first | refine callv_pure (joined_c _ hlen _) ?_) | ((with_reducible first | refine hK_ _ _ ?_ | refine hK_ _ _ _ _ (Weak.refl _ _) ?_); clear hK_ K_) | clear hK_ K_)
          rw [e]
          exact ⟨hxt, frz_self rfl rfl⟩
    clear hK_
    by_cases hlo : lo < hi
    · simp only [hlo, if_true] at e
      (refine sc ?_; intro x_ y_ hx_ hy_; simp only [go_sem, simprocAttr, hlo]; ((first | (with_reducible first | refine hx_ ?_ | refine hy_ ?_) | (with_reducible first | refine bI_split (fun h_ => hx_ ?_) (fun h_ => hy_ ?_) | refine bI_split (fun h_ => hy_ ?_) (fun h_ => hx_ ?_)) <;> try rw [h_]) <;> clear hx_ hy_ x_ y_))
      repeat' (first | refine st ?_ | refine pblock_en rfl ?_ | (refine ss ?_; intro K_ hK_) | refine vops_gf rfl ?_ | refine vops_gt rfl ?_ | (refine sk ?_; intro k_ hk_; simp only [go_sem, simprocAttr, hlo]; (with_reducible first | refine hk_ _ _ ?_ | refine hk_ _ ?_); clear hk_ k_) | ((first | refine sg ?_ | refine sc ?_); intro x_ y_ hx_ hy_; simp only [go_sem, simprocAttr, hlo]; ((first | (with_reducible first | refine hx_ ?_ | refine hy_ ?_) | (with_reducible first | refine bI_split (fun h_ => hx_ ?_) (fun h_ => hy_ ?_) | refine bI_split (fun h_ => hy_ ?_) (fun h_ => hx_ ?_)) <;> try rw [h_]) <;> clear hx_ hy_ x_ y_)) | ((with_reducible first | refine hK_ _ _ ?_ | refine hK_ _ _ _ _ (Weak.refl _ _) ?_); clear hK_ K_) | clear hK_ K_)
      refine callv (within_g l hl' lo hi _) ?_
      rintro r H1 ⟨y, rfl, hg, hx⟩
      repeat' (first | refine st ?_ | refine pblock_en rfl ?_ | (refine ss ?_; intro K_ hK_) | refine vops_gf rfl ?_ | refine vops_gt rfl ?_ | (refine sk ?_; intro k_ hk_; simp only [go_sem, simprocAttr]; (with_reducible first | refine hk_ _ _ ?_ | refine hk_ _ ?_); clear hk_ k_) | ((first | refine sg ?_ | refine sc ?_); intro x_ y_ hx_ hy_; simp only [go_sem, simprocAttr]; ((first | (with_reducible first | refine hx_ ?_ | refine hy_ ?_) | (with_reducible first | refine bI_split (fun h_ => hx_ ?_) (fun h_ => hy_ ?_) | refine bI_split (fun h_ => hy_ ?_) (fun h_ => hx_ ?_)) <;> try rw [h_]) <;> clear hx_ hy_ x_ y_)) | ((with_reducible first | refine hK_ _ _ ?_ | refine hK_ _ _ _ _ (Weak.refl _ _) ?_); clear hK_ K_) | clear hK_ K_)
      exact hloop _ _ y _ (by simp only [go_sem, simprocAttr, ]) (by simp only [go_sem, simprocAttr, ]) (by simp only [go_sem, simprocAttr, ]) (by simp only [go_sem, simprocAttr, ]) hx hg (by omega) e
    · simp only [hlo, if_false] at e
      (refine sc ?_; intro x_ y_ hx_ hy_; simp only [go_sem, simprocAttr, hlo]; ((first | (with_reducible first | refine hx_ ?_ | refine hy_ ?_) | (with_reducible first | refine bI_split (fun h_ => hx_ ?_) (fun h_ => hy_ ?_) | refine bI_split (fun h_ => hy_ ?_) (fun h_ => hx_ ?_)) <;> try rw [h_]) <;> clear hx_ hy_ x_ y_))
      repeat' (first | refine st ?_ | refine pblock_en rfl ?_ | (refine ss ?_; intro K_ hK_) | refine vops_gf rfl ?_ | refine vops_gt rfl ?_ | (refine sk ?_; intro k_ hk_; simp only [go_sem, simprocAttr, hlo]; (with_reducible first | refine hk_ _ _ ?_ | refine hk_ _ ?_); clear hk_ k_) | ((first | refine sg ?_ | refine sc ?_); intro x_ y_ hx_ hy_; simp only [go_sem, simprocAttr, hlo]; ((first | (with_reducible first | refine hx_ ?_ | refine hy_ ?_) | (with_reducible first | refine bI_split (fun h_ => hx_ ?_) (fun h_ => hy_ ?_) | refine bI_split (fun h_ => hy_ ?_) (fun h_ => hx_ ?_)) <;> try rw [h_]) <;> clear hx_ hy_ x_ y_)) | ((with_reducible first | refine hK_ _ _ ?_ | refine hK_ _ _ _ _ (Weak.refl _ _) ?_); clear hK_ K_) | clear hK_ K_)
      exact hloop _ _ _ [] (by simp only [go_sem, simprocAttr, ]) (by simp only [go_sem, simprocAttr, ]) (by simp only [go_sem, simprocAttr, ]) (by simp only [go_sem, simprocAttr, ]) (HExt.refl _) IsG.nil (by simp) e
  · have e : setS l lo hi p = [] := by
      unfold setS
      rw [if_neg]; simpa [and_assoc] using hgood
    rw [e]
    refine acalls_fz te_ok mix Try.func31 rfl Try.call31 (by kernel_rfl) (by kernel_rfl) rfl ?_; simp only [Try.results31]
    repeat' (first | refine st ?_ | refine pblock_en rfl ?_ | (refine ss ?_; intro K_ hK_) | refine vops_gf rfl ?_ | refine vops_gt rfl ?_ | (refine sk ?_; intro k_ hk_; simp only [go_sem, simprocAttr]; (with_reducible first | refine hk_ _ _ ?_ | refine hk_ _ ?_); clear hk_ k_) | ((first | refine sg ?_ | refine sc ?_); intro x_ y_ hx_ hy_; simp only [go_sem, simprocAttr]; ((first | (with_reducible first | refine hx_ ?_ | refine hy_ ?_) | (with_reducible first | refine bI_split (fun h_ => hx_ ?_) (fun h_ => hy_ ?_) | refine bI_split (fun h_ => hy_ ?_) (fun h_ => hx_ ?_)) <;> try rw [h_]) <;> clear hx_ hy_ x_ y_)) | (with_reducible first | refine callv_pure (right_c l hl' _) ?_) | ((with_reducible first | refine hK_ _ _ ?_ | refine hK_ _ _ _ _ (Weak.refl _ _) ?_); clear hK_ K_) | clear hK_ K_)
    all_goals first
      | exact ⟨hxt, _, .inr (.inl ⟨rfl, rfl, rfl⟩)⟩
      | (exfalso; simp_all)
end Go.Abs
