/-
  Joined texts: P3 G4 K8 P4.
-/
import Derived.Test.YtcgogenmikakkaaB5
import Derived.Test.YtcgogenmikakkaaB7
/-
  What the program's functions compute: flags, backings, gaps, mapping.
-/
namespace Go.Abs
set_option linter.unusedVariables false
set_option linter.unusedSimpArgs false
open Go.RowKit

def iandn (a b : Int) : Int := wr ↑(BitVec.ofInt 64 a &&& ~~~ BitVec.ofInt 64 b).toNat
theorem aint_and (x y : Int) : aint .and .i64 x y = some (.int .i64 (iand x y)) := rfl
theorem aint_andn (x y : Int) : aint .andNot .i64 x y = some (.int .i64 (iandn x y)) := rfl
attribute [go_sem ↓] aint_and aint_andn

def flagsS (f allowed : Int) : Int := if f < 0 ∨ iandn f allowed ≠ 0 then 1 else 0
def backS (b o size : Int) : Int :=
  if b < 0 ∨ b > 9 ∨ (b = 0 ∧ o ≠ 0) then 1 else if o % 4096 ≠ 0 then 2 else if o < 0 ∨ o > wr (1099511627776 - size) then 4 else 0
def awrongS (c : Ca) : Int :=
  if (sizeS c.l).2 ≠ 0 then (sizeS c.l).2 else if protS c.p ≠ 0 then protS c.p else if flagsS c.f 15 ≠ 0 then flagsS c.f 15
  else if iand c.f 3 = 2 then 1 else backS c.b c.o (sizeS c.l).1
def askedS (c : Ca) : Int × Int := ((sizeS c.l).1, awrongS c)
def fixedS (l : List Ar) (a n f : Int) : Int × Int :=
  if (rangeS a n).2.2 ≠ 0 then (0, (rangeS a n).2.2) else if iand f 2 ≠ 0 ∧ (WithinS l (rangeS a n).1 (rangeS a n).2.1).length > 0 then (0, 6) else (a, 0)
def gapsS (l : List Ar) : List Ga := if right l then gapsF 65536 l else []
def fitsS (l : List Ar) (a n : Int) : Bool :=
  gsizeS n && decide (a % 4096 = 0) && decide (65536 ≤ a) && decide (a ≤ 2097152 - n) && (gapsS l).any fun g => decide (a ≥ g.s) && decide (a + n ≤ g.e)
def chooseS (l : List Ar) (n f : Int) : Int × Bool := if iand f 8 ≠ 0 then lowestS l 65536 2097152 n else highestS l 65536 2097152 n
def placeS (l : List Ar) (a n f : Int) : Int × Int :=
  if mayS l = false then (0, 1) else if iand f 1 ≠ 0 then fixedS l a n f else if a ≠ 0 ∧ fitsS l a n = true then (a, 0)
  else if (chooseS l n f).2 = true then ((chooseS l n f).1, 0) else (0, 5)
abbrev mapA (c : Ca) (at_ : Int) : Ar := ⟨at_, wr (at_ + (askedS c).1), c.p, iand c.f 4 != 0, c.b, c.o⟩
def mapS (l : List Ar) (c : Ca) : List Ar × Ar :=
  if mayS l = false then (l, ansE 1) else if (askedS c).2 ≠ 0 then (l, ansE (askedS c).2)
  else if (placeS l c.a (askedS c).1 c.f).2 ≠ 0 then (l, ansE (placeS l c.a (askedS c).1 c.f).2)
  else keptS l (putS l (mapA c (placeS l c.a (askedS c).1 c.f).1)) (placeS l c.a (askedS c).1 c.f).1
def unmapS (l : List Ar) (c : Ca) : List Ar × Ar :=
  if mayS l = false then (l, ansE 1) else if (rangeS c.a c.l).2.2 ≠ 0 then (l, ansE (rangeS c.a c.l).2.2) else keptS l (cutS l (rangeS c.a c.l).1 (rangeS c.a c.l).2.1) 0
end Go.Abs
/-
  gap.Gaps, Fits.
-/
namespace Go.Abs
set_option linter.unusedVariables false
set_option linter.unusedSimpArgs false
open Go.Proofs
set_option maxHeartbeats 4000000

theorem gapsF_len : ∀ (l : List Ar) (q : Int), (gapsF q l).length ≤ l.length + 1
  | [], q => by unfold gapsF; split <;> simp
  | a :: l, q => by
    unfold gapsF
    have := gapsF_len l a.e
    split <;> simp <;> omega

theorem gaps_c (l : List Ar) (hl : l.length < 100000) (H : Heap) : ACalls Try.prog 77 [.s (LV Ar.c l)] H (.s (LV Ga.c (gapsS l))) H := by
  have hl' : l.length < 1000000 := by omega
  refine acalls_of_G (sz := 2) ga_pers ?_
  refine acalls_of_wc te_ok mix Try.func77 rfl Try.call77 (by kernel_rfl) rfl ?_
  intro X hX
  simp only [Try.results77]
  refine wc_seq (wc_of_vc (by kernel_rfl) ?_)
  repeat' (first | refine st ?_ | refine pblock_en rfl ?_ | (refine ss ?_; intro K_ hK_) | refine vops_gf rfl ?_ | refine vops_gt rfl ?_ | (refine sk ?_; intro k_ hk_; simp only [go_sem, simprocAttr]; (with_reducible first | refine hk_ _ _ ?_ | refine hk_ _ ?_); clear hk_ k_) | ((first | refine sg ?_ | refine sc ?_); intro x_ y_ hx_ hy_; simp only [go_sem, simprocAttr]; ((first | (with_reducible first | refine hx_ ?_ | refine hy_ ?_) | (with_reducible first | refine bI_split (fun h_ => hx_ ?_) (fun h_ => hy_ ?_) | refine bI_split (fun h_ => hy_ ?_) (fun h_ => hx_ ?_)) <;> try rw [h_]) <;> clear hx_ hy_ x_ y_)) | ((with_reducible first | refine hK_ _ _ ?_ | refine hK_ _ _ _ _ (Weak.refl _ _) ?_); clear hK_ K_) | clear hK_ K_)
  refine wc_seq (wc_seq (wc_of_vc (by kernel_rfl) ?_))
  cases hr : right l
  case false =>
    have e : gapsS l = [] := by unfold gapsS; rw [if_neg (by simp [hr])]
    rw [e]
    repeat' (first | refine st ?_ | refine pblock_en rfl ?_ | (refine ss ?_; intro K_ hK_) | refine vops_gf rfl ?_ | refine vops_gt rfl ?_ | (refine sk ?_; intro k_ hk_; simp only [go_sem, simprocAttr, hr]; (with_reducible first | refine hk_ _ _ ?_ | refine hk_ _ ?_); clear hk_ k_) | ((first | refine sg ?_ | refine sc ?_); intro x_ y_ hx_ hy_; simp only [go_sem, simprocAttr, hr]; ((first | (with_reducible first | refine hx_ ?_ | refine hy_ ?_) | (with_reducible first | refine bI_split (fun h_ => hx_ ?_) (fun h_ => hy_ ?_) | refine bI_split (fun h_ => hy_ ?_) (fun h_ => hx_ ?_)) <;> try rw [h_]) <;> clear hx_ hy_ x_ y_)) | (with_reducible first | refine callv_pure (right_c l hl' _) ?_) | ((with_reducible first | refine hK_ _ _ ?_ | refine hK_ _ _ _ _ (Weak.refl _ _) ?_); clear hK_ K_) | clear hK_ K_)
    refine wc_of_vc (by kernel_rfl) ?_
    repeat' (first | refine st ?_ | refine pblock_en rfl ?_ | (refine ss ?_; intro K_ hK_) | refine vops_gf rfl ?_ | refine vops_gt rfl ?_ | (refine sk ?_; intro k_ hk_; simp only [go_sem, simprocAttr]; (with_reducible first | refine hk_ _ _ ?_ | refine hk_ _ ?_); clear hk_ k_) | ((first | refine sg ?_ | refine sc ?_); intro x_ y_ hx_ hy_; simp only [go_sem, simprocAttr]; ((first | (with_reducible first | refine hx_ ?_ | refine hy_ ?_) | (with_reducible first | refine bI_split (fun h_ => hx_ ?_) (fun h_ => hy_ ?_) | refine bI_split (fun h_ => hy_ ?_) (fun h_ => hx_ ?_)) <;> try rw [h_]) <;> clear hx_ hy_ x_ y_)) | ((with_reducible first | refine hK_ _ _ ?_ | refine hK_ _ _ _ _ (Weak.refl _ _) ?_); clear hK_ K_) | clear hK_ K_)
    exact ⟨_, rfl, IsG.nil, hxt⟩
  have e : gapsS l = gapsF 65536 l := by unfold gapsS; rw [if_pos hr]
  rw [e]
  have hgl := gapsF_len l 65536
  repeat' (first | refine st ?_ | refine pblock_en rfl ?_ | (refine ss ?_; intro K_ hK_) | refine vops_gf rfl ?_ | refine vops_gt rfl ?_ | (refine sk ?_; intro k_ hk_; simp only [go_sem, simprocAttr, hr]; (with_reducible first | refine hk_ _ _ ?_ | refine hk_ _ ?_); clear hk_ k_) | ((first | refine sg ?_ | refine sc ?_); intro x_ y_ hx_ hy_; simp only [go_sem, simprocAttr, hr]; ((first | (with_reducible first | refine hx_ ?_ | refine hy_ ?_) | (with_reducible first | refine bI_split (fun h_ => hx_ ?_) (fun h_ => hy_ ?_) | refine bI_split (fun h_ => hy_ ?_) (fun h_ => hx_ ?_)) <;> try rw [h_]) <;> clear hx_ hy_ x_ y_)) | (with_reducible first | refine callv_pure (right_c l hl' _) ?_) | ((with_reducible first | refine hK_ _ _ ?_ | refine hK_ _ _ _ _ (Weak.refl _ _) ?_); clear hK_ K_) | clear hK_ K_)
  refine wc_of_vc (by kernel_rfl) ?_
  repeat' (first | refine st ?_ | refine pblock_en rfl ?_ | (refine ss ?_; intro K_ hK_) | refine vops_gf rfl ?_ | refine vops_gt rfl ?_ | (refine sk ?_; intro k_ hk_; simp only [go_sem, simprocAttr, hr]; (with_reducible first | refine hk_ _ _ ?_ | refine hk_ _ ?_); clear hk_ k_) | ((first | refine sg ?_ | refine sc ?_); intro x_ y_ hx_ hy_; simp only [go_sem, simprocAttr, hr]; ((first | (with_reducible first | refine hx_ ?_ | refine hy_ ?_) | (with_reducible first | refine bI_split (fun h_ => hx_ ?_) (fun h_ => hy_ ?_) | refine bI_split (fun h_ => hy_ ?_) (fun h_ => hx_ ?_)) <;> try rw [h_]) <;> clear hx_ hy_ x_ y_)) | ((with_reducible first | refine hK_ _ _ ?_ | refine hK_ _ _ _ _ (Weak.refl _ _) ?_); clear hK_ K_) | clear hK_ K_)
  refine wc_seq (wc_of_vc (by kernel_rfl) ?_)
  repeat' (first | refine st ?_ | refine pblock_en rfl ?_ | (refine ss ?_; intro K_ hK_) | refine vops_gf rfl ?_ | refine vops_gt rfl ?_ | (refine sk ?_; intro k_ hk_; simp only [go_sem, simprocAttr]; (with_reducible first | refine hk_ _ _ ?_ | refine hk_ _ ?_); clear hk_ k_) | ((first | refine sg ?_ | refine sc ?_); intro x_ y_ hx_ hy_; simp only [go_sem, simprocAttr]; ((first | (with_reducible first | refine hx_ ?_ | refine hy_ ?_) | (with_reducible first | refine bI_split (fun h_ => hx_ ?_) (fun h_ => hy_ ?_) | refine bI_split (fun h_ => hy_ ?_) (fun h_ => hx_ ?_)) <;> try rw [h_]) <;> clear hx_ hy_ x_ y_)) | ((with_reducible first | refine hK_ _ _ ?_ | refine hK_ _ _ _ _ (Weak.refl _ _) ?_); clear hK_ K_) | clear hK_ K_)
  refine wc_seq (wc_seq (wc_of_vc (by kernel_rfl) ?_))
  repeat' (first | refine st ?_ | refine pblock_en rfl ?_ | (refine ss ?_; intro K_ hK_) | refine vops_gf rfl ?_ | refine vops_gt rfl ?_ | (refine sk ?_; intro k_ hk_; simp only [go_sem, simprocAttr]; (with_reducible first | refine hk_ _ _ ?_ | refine hk_ _ ?_); clear hk_ k_) | ((first | refine sg ?_ | refine sc ?_); intro x_ y_ hx_ hy_; simp only [go_sem, simprocAttr]; ((first | (with_reducible first | refine hx_ ?_ | refine hy_ ?_) | (with_reducible first | refine bI_split (fun h_ => hx_ ?_) (fun h_ => hy_ ?_) | refine bI_split (fun h_ => hy_ ?_) (fun h_ => hx_ ?_)) <;> try rw [h_]) <;> clear hx_ hy_ x_ y_)) | ((with_reducible first | refine hK_ _ _ ?_ | refine hK_ _ _ _ _ (Weak.refl _ _) ?_); clear hK_ K_) | clear hK_ K_)
  refine callv (each0_c l _) ?_
  rintro r H1 ⟨rfl, hx, hn1, hb⟩
  repeat' (first | refine st ?_ | refine pblock_en rfl ?_ | (refine ss ?_; intro K_ hK_) | refine vops_gf rfl ?_ | refine vops_gt rfl ?_ | (refine sk ?_; intro k_ hk_; simp only [go_sem, simprocAttr]; (with_reducible first | refine hk_ _ _ ?_ | refine hk_ _ ?_); clear hk_ k_) | ((first | refine sg ?_ | refine sc ?_); intro x_ y_ hx_ hy_; simp only [go_sem, simprocAttr]; ((first | (with_reducible first | refine hx_ ?_ | refine hy_ ?_) | (with_reducible first | refine bI_split (fun h_ => hx_ ?_) (fun h_ => hy_ ?_) | refine bI_split (fun h_ => hy_ ?_) (fun h_ => hx_ ?_)) <;> try rw [h_]) <;> clear hx_ hy_ x_ y_)) | ((with_reducible first | refine hK_ _ _ ?_ | refine hK_ _ _ _ _ (Weak.refl _ _) ?_); clear hK_ K_) | clear hK_ K_)
  obtain ⟨J, hJ⟩ : ∃ J : Nat → (Nat → Prop) → Heap → Prop, J = fun i T H2 => ∃ y, T = (fun k => k ≤ H.n ∨ ∃ m, y = .sl k 0 m true) ∧ HExt H H2 ∧ H.n < H2.n ∧ H2.m H.n = some { cells := [y] } ∧ IsG Ga.c 2 H.n H2 y ((gapsF 65536 l).take i) ∧ (∀ m, y ≠ .sl H.n 0 m true) := ⟨_, rfl⟩
  have hm : ∀ k, k < H.n + 1 → H1.m k = _ := fun k hk => hx.2 k (by simpa using hk)
  have hn1' : H.n + 1 < H1.n := by simpa using hn1
  refine wc_block (wc_rangeFunc hX (f := 88) (caps := [(_, 0)]) (xs := (gapsF 65536 l).map fun g => .agg g.c) (by kernel_rfl) (by simp only [go_sem, simprocAttr, ]) Try.call88 (each_c l hl hn1 hb) J (fun _ => False) (fun k => k ≤ H.n) ⟨?_, ?_⟩ ?_ ?_ (by kernel_rfl) (by kernel_rfl) ?_ ?_ (fun _ h => h.elim))
  · subst hJ
    rintro i T H2 ⟨y, rfl, hx2, h1, h2, h3, h4⟩ k (hk | ⟨m, rfl⟩)
    · omega
    · exact h3.lt.2
  · subst hJ
    rintro i T H2 H3 ⟨y, rfl, hx2, h1, h2, h3, h4⟩ hn hk
    refine ⟨y, rfl, ⟨by have := hx2.1; omega, fun k hk' => (hk k (.inl (by omega))).trans (hx2.2 k hk')⟩, by omega, (hk _ (.inl (by omega))).trans h2, h3.keep hn (fun b hb hb' e => hk b (.inr ⟨_, e⟩)), h4⟩
  · subst hJ
    refine ⟨.raw (.slice none 0 0), ?_, ⟨by omega, fun k hk => ?_⟩, by omega, ?_, IsG.nil, fun m h => by cases h⟩
    · funext k; simp
    · rw [hm _ (by omega)]
      exact (by (try simp only [go_sem, simprocAttr, nlt hk, nlt0 hk]); first | done | exact rfl)
    · rw [hm _ (by omega)]
      exact (by (try simp only [go_sem, simprocAttr, ]); first | done | exact rfl)
  · intro q hq
    simp at hq; subst hq
    simp
  · subst hJ
    rintro i c T H2 hi' ⟨y, rfl, hx', h1, h2, h3, h4⟩
    obtain ⟨g, hg, rfl⟩ := gaps_at hi'
    have hil : i < (gapsF 65536 l).length := (List.getElem?_eq_some_iff.1 hg).1
    have ht : (gapsF 65536 l).take (i + 1) = (gapsF 65536 l).take i ++ [g] := by rw [List.take_add_one, hg]; rfl
    have htl : ((gapsF 65536 l).take i).length = i := by simp; omega
    generalize (gapsF 65536 l).take i = out at h3 ht htl
    have q0 : (H.n = H2.n) = False := eq_false (by omega)
    have q1 : (H.n = H2.n + 1) = False := eq_false (by omega)
    repeat' (first | refine st ?_ | refine pblock_en rfl ?_ | (refine ss ?_; intro K_ hK_) | refine vops_gf rfl ?_ | refine vops_gt rfl ?_ | (refine sk ?_; intro k_ hk_; simp only [go_sem, simprocAttr, q0, q1, h2]; (with_reducible first | refine hk_ _ _ ?_ | refine hk_ _ ?_); clear hk_ k_) | ((first | refine sg ?_ | refine sc ?_); intro x_ y_ hx_ hy_; simp only [go_sem, simprocAttr, q0, q1, h2]; ((first | (with_reducible first | refine hx_ ?_ | refine hy_ ?_) | (with_reducible first | refine bI_split (fun h_ => hx_ ?_) (fun h_ => hy_ ?_) | refine bI_split (fun h_ => hy_ ?_) (fun h_ => hx_ ?_)) <;> try rw [h_]) <;> clear hx_ hy_ x_ y_)) | ((with_reducible first | refine hK_ _ _ ?_ | refine hK_ _ _ _ _ (Weak.refl _ _) ?_); clear hK_ K_) | clear hK_ K_)
    refine vx_append (f := Ga.c) (sz := 2) (H0 := H) (new := [g]) rfl rfl rfl rfl rfl rfl ga_len (by (repeat' (first | exact hx' | refine HExt.push ?_ _ | (refine HExt.set ?_ (by (try simp only [Heap.push_n, Heap.set_n]); omega) _)))) (h3.ext (hxo)) (by simp only [go_sem, simprocAttr, ]) (by simp only [go_sem, simprocAttr, FL_one]) (by simp; omega) ?_
    intro y' H3 hg3 hx3 hkp
    have h5 : H3.m H.n = some { cells := [y] } := (hkp.keep _ (by simp; omega) h4).trans ((by (try simp only [go_sem, simprocAttr, q0, q1, h2]); first | done | exact rfl))
    have h6 : ∀ m, y' ≠ .sl H.n 0 m true := fun m h => by
      rcases hkp.fresh _ _ h with h | h
      · simp at h; omega
      · exact h4 _ h
    have h7 := hkp.n
    simp only [Heap.push_n, Heap.set_n] at h7
    repeat' (first | refine st ?_ | refine pblock_en rfl ?_ | (refine ss ?_; intro K_ hK_) | refine vops_gf rfl ?_ | refine vops_gt rfl ?_ | (refine sk ?_; intro k_ hk_; simp only [go_sem, simprocAttr, h5]; (with_reducible first | refine hk_ _ _ ?_ | refine hk_ _ ?_); clear hk_ k_) | ((first | refine sg ?_ | refine sc ?_); intro x_ y_ hx_ hy_; simp only [go_sem, simprocAttr, h5]; ((first | (with_reducible first | refine hx_ ?_ | refine hy_ ?_) | (with_reducible first | refine bI_split (fun h_ => hx_ ?_) (fun h_ => hy_ ?_) | refine bI_split (fun h_ => hy_ ?_) (fun h_ => hx_ ?_)) <;> try rw [h_]) <;> clear hx_ hy_ x_ y_)) | ((with_reducible first | refine hK_ _ _ ?_ | refine hK_ _ _ _ _ (Weak.refl _ _) ?_); clear hK_ K_) | clear hK_ K_)
    refine ⟨by simp; omega, fun k hk hnt => ?_, _, ⟨y', rfl, ?_, by simp; omega, (by (try simp only [go_sem, simprocAttr, ]); first | done | exact rfl), ?_, h6⟩, ?_⟩
    · have e1 : ¬ k = H.n := fun e => hnt (.inl (by omega))
      rw [Heap.set_ne _ _ _ e1, hkp.keep _ (by simp; omega) (fun m e => hnt (.inr ⟨m, e⟩))]
      exact (by (try simp only [go_sem, simprocAttr, nlt hk, nlt0 hk]); first | done | exact rfl)
    · exact ⟨hx3.1, fun k hk => (Heap.set_ne _ _ _ (by omega)).trans (hx3.2 k hk)⟩
    · rw [ht]
      exact hg3.keep (Nat.le_refl _) fun b hb hb' e => Heap.set_ne _ _ _ (by rintro rfl; exact h6 _ e)
    · rintro k (hk | ⟨m, e⟩)
      · exact .inl (.inl hk)
      · rcases hkp.fresh _ _ e with h | h
        · exact .inr (by simp at h; omega)
        · exact .inl (.inr ⟨m, h⟩)
  · subst hJ
    rintro T H2 ⟨y, rfl, hx2, h1, h2, h3, h4⟩
    rw [List.take_of_length_le (by simp)] at h3
    refine wc_seq (wc_of_vc (by kernel_rfl) ?_)
    repeat' (first | refine st ?_ | refine pblock_en rfl ?_ | (refine ss ?_; intro K_ hK_) | refine vops_gf rfl ?_ | refine vops_gt rfl ?_ | (refine sk ?_; intro k_ hk_; simp only [go_sem, simprocAttr, h2]; (with_reducible first | refine hk_ _ _ ?_ | refine hk_ _ ?_); clear hk_ k_) | ((first | refine sg ?_ | refine sc ?_); intro x_ y_ hx_ hy_; simp only [go_sem, simprocAttr, h2]; ((first | (with_reducible first | refine hx_ ?_ | refine hy_ ?_) | (with_reducible first | refine bI_split (fun h_ => hx_ ?_) (fun h_ => hy_ ?_) | refine bI_split (fun h_ => hy_ ?_) (fun h_ => hx_ ?_)) <;> try rw [h_]) <;> clear hx_ hy_ x_ y_)) | ((with_reducible first | refine hK_ _ _ ?_ | refine hK_ _ _ _ _ (Weak.refl _ _) ?_); clear hK_ K_) | clear hK_ K_)
    refine wc_of_vc (by kernel_rfl) ?_
    repeat' (first | refine st ?_ | refine pblock_en rfl ?_ | (refine ss ?_; intro K_ hK_) | refine vops_gf rfl ?_ | refine vops_gt rfl ?_ | (refine sk ?_; intro k_ hk_; simp only [go_sem, simprocAttr]; (with_reducible first | refine hk_ _ _ ?_ | refine hk_ _ ?_); clear hk_ k_) | ((first | refine sg ?_ | refine sc ?_); intro x_ y_ hx_ hy_; simp only [go_sem, simprocAttr]; ((first | (with_reducible first | refine hx_ ?_ | refine hy_ ?_) | (with_reducible first | refine bI_split (fun h_ => hx_ ?_) (fun h_ => hy_ ?_) | refine bI_split (fun h_ => hy_ ?_) (fun h_ => hx_ ?_)) <;> try rw [h_]) <;> clear hx_ hy_ x_ y_)) | ((with_reducible first | refine hK_ _ _ ?_ | refine hK_ _ _ _ _ (Weak.refl _ _) ?_); clear hK_ K_) | clear hK_ K_)
    exact ⟨y, rfl, h3, hx2⟩
theorem gapsS_len (l : List Ar) : (gapsS l).length ≤ l.length + 1 := by
  unfold gapsS; split
  · exact gapsF_len _ _
  · simp

theorem fits_c (l : List Ar) (hl : l.length < 100000) (a n : Int) (H : Heap) : ACalls Try.prog 49 [.s (LV Ar.c l), .s (I a), .s (I n)] H (.s (Bo (fitsS l a n))) H := by
  refine acalls_pure te_ok mix Try.func49 rfl Try.call49 (by kernel_rfl) (by kernel_rfl) rfl rfl ?_; simp only [Try.results49]
  cases hs : gsizeS n
  · have e : fitsS l a n = false := by simp [fitsS, hs]
    rw [e]
    repeat' (first | refine st ?_ | refine pblock_en rfl ?_ | (refine ss ?_; intro K_ hK_) | refine vops_gf rfl ?_ | refine vops_gt rfl ?_ | (refine sk ?_; intro k_ hk_; simp only [go_sem, simprocAttr, hs]; (with_reducible first | refine hk_ _ _ ?_ | refine hk_ _ ?_); clear hk_ k_) | ((first | refine sg ?_ | refine sc ?_); intro x_ y_ hx_ hy_; simp only [go_sem, simprocAttr, hs]; ((first | (with_reducible first | refine hx_ ?_ | refine hy_ ?_) | (with_reducible first | refine bI_split (fun h_ => hx_ ?_) (fun h_ => hy_ ?_) | refine bI_split (fun h_ => hy_ ?_) (fun h_ => hx_ ?_)) <;> try rw [h_]) <;> clear hx_ hy_ x_ y_)) | (with_reducible first | refine callv_pure (gsize_c _ _) ?_) | ((with_reducible first | refine hK_ _ _ ?_ | refine hK_ _ _ _ _ (Weak.refl _ _) ?_); clear hK_ K_) | clear hK_ K_)
    exact ⟨rfl, hxt⟩
  have hn : 1 ≤ n ∧ n ≤ 2031616 := by simp [gsizeS] at hs; omega
  have hw : IntKind.i64.wrap (2097152 - n) = 2097152 - n := wrap_id (by omega) (by omega)
  by_cases ha : a % 4096 = 0 ∧ 65536 ≤ a ∧ a ≤ 2097152 - n
  case neg =>
    have e : fitsS l a n = false := by
      simp only [fitsS, hs, Bool.true_and]
      cases h : decide (a % 4096 = 0) && decide (65536 ≤ a) && decide (a ≤ 2097152 - n)
      · rfl
      · simp [and_assoc] at h; exact absurd h ha
    rw [e]
    repeat' (first | refine st ?_ | refine pblock_en rfl ?_ | (refine ss ?_; intro K_ hK_) | refine vops_gf rfl ?_ | refine vops_gt rfl ?_ | (refine sk ?_; intro k_ hk_; simp only [go_sem, simprocAttr, hs, hw]; (with_reducible first | refine hk_ _ _ ?_ | refine hk_ _ ?_); clear hk_ k_) | ((first | refine sg ?_ | refine sc ?_); intro x_ y_ hx_ hy_; simp only [go_sem, simprocAttr, hs, hw]; ((first | (with_reducible first | refine hx_ ?_ | refine hy_ ?_) | (with_reducible first | refine bI_split (fun h_ => hx_ ?_) (fun h_ => hy_ ?_) | refine bI_split (fun h_ => hy_ ?_) (fun h_ => hx_ ?_)) <;> try rw [h_]) <;> clear hx_ hy_ x_ y_)) | (with_reducible first | refine callv_pure (gsize_c _ _) ?_) | ((with_reducible first | refine hK_ _ _ ?_ | refine hK_ _ _ _ _ (Weak.refl _ _) ?_); clear hK_ K_) | clear hK_ K_)
    all_goals first
      | exact ⟨rfl, hxt⟩
      | (exfalso; simp_all [tmod_zero]; done)
      | (exfalso; simp_all [tmod_zero]; omega)
  obtain ⟨h1, h2, h3⟩ := ha
  have f1 : (a.tmod 4096 != 0) = false := by simpa [tmod_zero] using h1
  have f2 : (a < 65536) = False := eq_false (by omega)
  have f3 : (a > 2097152 - n) = False := eq_false (by omega)
  have hw2 : IntKind.i64.wrap (a + n) = a + n := wrap_id (by omega) (by omega)
  have e : fitsS l a n = (gapsS l).any fun g => decide (a ≥ g.s) && decide (a + n ≤ g.e) := by
    simp [fitsS, hs, h1, h2, h3]
  have hgl := gapsS_len l
  have G1 := fun H => gaps_c l hl H
  generalize gapsS l = gs at hgl G1 e
  rw [e]
  repeat' (first | refine st ?_ | refine pblock_en rfl ?_ | (refine ss ?_; intro K_ hK_) | refine vops_gf rfl ?_ | refine vops_gt rfl ?_ | (refine sk ?_; intro k_ hk_; simp only [go_sem, simprocAttr, hs, hw, f1, f2, f3]; (with_reducible first | refine hk_ _ _ ?_ | refine hk_ _ ?_); clear hk_ k_) | ((first | refine sg ?_ | refine sc ?_); intro x_ y_ hx_ hy_; simp only [go_sem, simprocAttr, hs, hw, f1, f2, f3]; ((first | (with_reducible first | refine hx_ ?_ | refine hy_ ?_) | (with_reducible first | refine bI_split (fun h_ => hx_ ?_) (fun h_ => hy_ ?_) | refine bI_split (fun h_ => hy_ ?_) (fun h_ => hx_ ?_)) <;> try rw [h_]) <;> clear hx_ hy_ x_ y_)) | (with_reducible first | refine callv_pure (gsize_c _ _) ?_ | refine callv_pure (G1 _) ?_) | ((with_reducible first | refine hK_ _ _ ?_ | refine hK_ _ _ _ _ (Weak.refl _ _) ?_); clear hK_ K_) | clear hK_ K_)
  refine vc_range gs.length (fun i σ' H' => σ' 1 = .s (I a) ∧ σ' 2 = .s (I n) ∧ σ' 28 = .s (LV Ga.c gs) ∧ σ' 29 = .s (I gs.length) ∧ σ' 30 = .s (I i) ∧ HExt H H' ∧ (gs.any fun g => decide (a ≥ g.s) && decide (a + n ≤ g.e)) = (gs.drop i).any fun g => decide (a ≥ g.s) && decide (a + n ≤ g.e)) ⟨rfl, rfl, rfl, rfl, rfl, HExt.refl _, rfl⟩ ?_
  rintro i σ' H' hi' ⟨s1, s2, s28, s29, s30, hx', hc⟩
  have hn' := hx'.1
  by_cases hil : i < gs.length
  · have ha : gs[i]? = some gs[i] := List.getElem?_eq_getElem hil
    generalize gs[i] = g at ha
    have g1 := FL_at ga_len ha
    rw [drop_at ha, List.any_cons] at hc
    by_cases b1 : a ≥ g.s
    · by_cases b2 : a + n ≤ g.e
      · repeat' (first | refine st ?_ | refine pblock_en rfl ?_ | (refine ss ?_; intro K_ hK_) | refine vops_gf rfl ?_ | refine vops_gt rfl ?_ | (refine sk ?_; intro k_ hk_; simp only [go_sem, simprocAttr, s1, s2, s28, s29, s30, ilt hil, g1, hw2, eq_true b1, eq_true b2, wrap_succ (n := i) (by omega)]; (with_reducible first | refine hk_ _ _ ?_ | refine hk_ _ ?_); clear hk_ k_) | ((first | refine sg ?_ | refine sc ?_); intro x_ y_ hx_ hy_; simp only [go_sem, simprocAttr, s1, s2, s28, s29, s30, ilt hil, g1, hw2, eq_true b1, eq_true b2, wrap_succ (n := i) (by omega)]; ((first | (with_reducible first | refine hx_ ?_ | refine hy_ ?_) | (with_reducible first | refine bI_split (fun h_ => hx_ ?_) (fun h_ => hy_ ?_) | refine bI_split (fun h_ => hy_ ?_) (fun h_ => hx_ ?_)) <;> try rw [h_]) <;> clear hx_ hy_ x_ y_)) | ((with_reducible first | refine hK_ _ _ ?_ | refine hK_ _ _ _ _ (Weak.refl _ _) ?_); clear hK_ K_) | clear hK_ K_)
        refine ⟨?_, hxt⟩
        rw [hc]; simp [b1, b2]
      · repeat' (first | refine st ?_ | refine pblock_en rfl ?_ | (refine ss ?_; intro K_ hK_) | refine vops_gf rfl ?_ | refine vops_gt rfl ?_ | (refine sk ?_; intro k_ hk_; simp only [go_sem, simprocAttr, s1, s2, s28, s29, s30, ilt hil, g1, hw2, eq_true b1, eq_false b2, wrap_succ (n := i) (by omega)]; (with_reducible first | refine hk_ _ _ ?_ | refine hk_ _ ?_); clear hk_ k_) | ((first | refine sg ?_ | refine sc ?_); intro x_ y_ hx_ hy_; simp only [go_sem, simprocAttr, s1, s2, s28, s29, s30, ilt hil, g1, hw2, eq_true b1, eq_false b2, wrap_succ (n := i) (by omega)]; ((first | (with_reducible first | refine hx_ ?_ | refine hy_ ?_) | (with_reducible first | refine bI_split (fun h_ => hx_ ?_) (fun h_ => hy_ ?_) | refine bI_split (fun h_ => hy_ ?_) (fun h_ => hx_ ?_)) <;> try rw [h_]) <;> clear hx_ hy_ x_ y_)) | ((with_reducible first | refine hK_ _ _ ?_ | refine hK_ _ _ _ _ (Weak.refl _ _) ?_); clear hK_ K_) | clear hK_ K_)
        refine ⟨hil, (by simp only [go_sem, simprocAttr, s1]), (by simp only [go_sem, simprocAttr, s2]), (by simp only [go_sem, simprocAttr, s28]), (by simp only [go_sem, simprocAttr, s29]), (by simp only [go_sem, simprocAttr, ]), hxt, ?_⟩
        rw [hc]; simp [b1, b2]
    · repeat' (first | refine st ?_ | refine pblock_en rfl ?_ | (refine ss ?_; intro K_ hK_) | refine vops_gf rfl ?_ | refine vops_gt rfl ?_ | (refine sk ?_; intro k_ hk_; simp only [go_sem, simprocAttr, s1, s2, s28, s29, s30, ilt hil, g1, hw2, eq_false b1, wrap_succ (n := i) (by omega)]; (with_reducible first | refine hk_ _ _ ?_ | refine hk_ _ ?_); clear hk_ k_) | ((first | refine sg ?_ | refine sc ?_); intro x_ y_ hx_ hy_; simp only [go_sem, simprocAttr, s1, s2, s28, s29, s30, ilt hil, g1, hw2, eq_false b1, wrap_succ (n := i) (by omega)]; ((first | (with_reducible first | refine hx_ ?_ | refine hy_ ?_) | (with_reducible first | refine bI_split (fun h_ => hx_ ?_) (fun h_ => hy_ ?_) | refine bI_split (fun h_ => hy_ ?_) (fun h_ => hx_ ?_)) <;> try rw [h_]) <;> clear hx_ hy_ x_ y_)) | ((with_reducible first | refine hK_ _ _ ?_ | refine hK_ _ _ _ _ (Weak.refl _ _) ?_); clear hK_ K_) | clear hK_ K_)
      refine ⟨hil, (by simp only [go_sem, simprocAttr, s1]), (by simp only [go_sem, simprocAttr, s2]), (by simp only [go_sem, simprocAttr, s28]), (by simp only [go_sem, simprocAttr, s29]), (by simp only [go_sem, simprocAttr, ]), hxt, ?_⟩
      rw [hc]; simp [b1]
  · repeat' (first | refine st ?_ | refine pblock_en rfl ?_ | (refine ss ?_; intro K_ hK_) | refine vops_gf rfl ?_ | refine vops_gt rfl ?_ | (refine sk ?_; intro k_ hk_; simp only [go_sem, simprocAttr, s1, s2, s28, s29, s30, ige hil]; (with_reducible first | refine hk_ _ _ ?_ | refine hk_ _ ?_); clear hk_ k_) | ((first | refine sg ?_ | refine sc ?_); intro x_ y_ hx_ hy_; simp only [go_sem, simprocAttr, s1, s2, s28, s29, s30, ige hil]; ((first | (with_reducible first | refine hx_ ?_ | refine hy_ ?_) | (with_reducible first | refine bI_split (fun h_ => hx_ ?_) (fun h_ => hy_ ?_) | refine bI_split (fun h_ => hy_ ?_) (fun h_ => hx_ ?_)) <;> try rw [h_]) <;> clear hx_ hy_ x_ y_)) | ((with_reducible first | refine hK_ _ _ ?_ | refine hK_ _ _ _ _ (Weak.refl _ _) ?_); clear hK_ K_) | clear hK_ K_)
    have : i = gs.length := by omega
    subst this
    refine ⟨?_, hxt⟩
    rw [hc]; simp
end Go.Abs
/-
  check.Flags, Backing; mapping.asked, fixed, Place, Map, Unmap.
-/
namespace Go.Abs
set_option linter.unusedVariables false
set_option linter.unusedSimpArgs false
open Go.Proofs
set_option maxHeartbeats 4000000

theorem flags_c (f m : Int) (H : Heap) : ACalls Try.prog 71 [.s (I f), .s (I m)] H (.s (I (flagsS f m))) H := by
  refine acalls_pure te_ok mix Try.func71 rfl Try.call71 (by kernel_rfl) (by kernel_rfl) rfl rfl ?_; simp only [Try.results71]
  repeat' (first | refine st ?_ | refine pblock_en rfl ?_ | (refine ss ?_; intro K_ hK_) | refine vops_gf rfl ?_ | refine vops_gt rfl ?_ | (refine sk ?_; intro k_ hk_; simp only [go_sem, simprocAttr]; (with_reducible first | refine hk_ _ _ ?_ | refine hk_ _ ?_); clear hk_ k_) | ((first | refine sg ?_ | refine sc ?_); intro x_ y_ hx_ hy_; simp only [go_sem, simprocAttr]; ((first | (with_reducible first | refine hx_ ?_ | refine hy_ ?_) | (with_reducible first | refine bI_split (fun h_ => hx_ ?_) (fun h_ => hy_ ?_) | refine bI_split (fun h_ => hy_ ?_) (fun h_ => hx_ ?_)) <;> try rw [h_]) <;> clear hx_ hy_ x_ y_)) | ((with_reducible first | refine hK_ _ _ ?_ | refine hK_ _ _ _ _ (Weak.refl _ _) ?_); clear hK_ K_) | clear hK_ K_)
  all_goals refine ⟨?_, hxt⟩
  all_goals (unfold flagsS; simp_all)
theorem backing_c (b o size : Int) (H : Heap) : ACalls Try.prog 72 [.s (I b), .s (I o), .s (I size)] H (.s (I (backS b o size))) H := by
  refine acalls_pure te_ok mix Try.func72 rfl Try.call72 (by kernel_rfl) (by kernel_rfl) rfl rfl ?_; simp only [Try.results72]
  repeat' (first | refine st ?_ | refine pblock_en rfl ?_ | (refine ss ?_; intro K_ hK_) | refine vops_gf rfl ?_ | refine vops_gt rfl ?_ | (refine sk ?_; intro k_ hk_; simp only [go_sem, simprocAttr]; (with_reducible first | refine hk_ _ _ ?_ | refine hk_ _ ?_); clear hk_ k_) | ((first | refine sg ?_ | refine sc ?_); intro x_ y_ hx_ hy_; simp only [go_sem, simprocAttr]; ((first | (with_reducible first | refine hx_ ?_ | refine hy_ ?_) | (with_reducible first | refine bI_split (fun h_ => hx_ ?_) (fun h_ => hy_ ?_) | refine bI_split (fun h_ => hy_ ?_) (fun h_ => hx_ ?_)) <;> try rw [h_]) <;> clear hx_ hy_ x_ y_)) | ((with_reducible first | refine hK_ _ _ ?_ | refine hK_ _ _ _ _ (Weak.refl _ _) ?_); clear hK_ K_) | clear hK_ K_)
  all_goals refine ⟨?_, hxt⟩
  all_goals (unfold backS; simp_all [tmod_zero, wr])
  all_goals rw [if_neg (by omega), if_neg (by omega)]
theorem bne_f {x y : Int} (h : x = y) : (x != y) = false := by simpa using h
theorem bne_t {x y : Int} (h : ¬ x = y) : (x != y) = true := by simpa using h
theorem beq_t {x y : Int} (h : x = y) : (x == y) = true := by simpa using h
theorem beq_f {x y : Int} (h : ¬ x = y) : (x == y) = false := by simpa using h
theorem asked_c (c : Ca) (H : Heap) : ACalls Try.prog 38 [.agg c.c] H (.tup [.s (I (askedS c).1), .s (I (askedS c).2)]) H := by
  refine acalls_pure te_ok mix Try.func38 rfl Try.call38 (by kernel_rfl) (by kernel_rfl) rfl rfl ?_; simp only [Try.results38]
  by_cases h0 : (sizeS c.l).2 = 0
  · by_cases h1 : protS c.p = 0
    · by_cases h2 : flagsS c.f 15 = 0
      · by_cases h3 : iand c.f 3 = 2
        · repeat' (first | refine st ?_ | refine pblock_en rfl ?_ | (refine ss ?_; intro K_ hK_) | refine vops_gf rfl ?_ | refine vops_gt rfl ?_ | (refine sk ?_; intro k_ hk_; simp only [go_sem, simprocAttr, beq_t h0, beq_t h1, beq_t h2, beq_t h3, beq_f (x := 1) (y := 0) (by decide)]; (with_reducible first | refine hk_ _ _ ?_ | refine hk_ _ ?_); clear hk_ k_) | ((first | refine sg ?_ | refine sc ?_); intro x_ y_ hx_ hy_; simp only [go_sem, simprocAttr, beq_t h0, beq_t h1, beq_t h2, beq_t h3, beq_f (x := 1) (y := 0) (by decide)]; ((first | (with_reducible first | refine hx_ ?_ | refine hy_ ?_) | (with_reducible first | refine bI_split (fun h_ => hx_ ?_) (fun h_ => hy_ ?_) | refine bI_split (fun h_ => hy_ ?_) (fun h_ => hx_ ?_)) <;> try rw [h_]) <;> clear hx_ hy_ x_ y_)) | (with_reducible first | refine callv_pure (size_c _ _) ?_ | refine callv_pure (prot_c _ _) ?_ | refine callv_pure (flags_c _ _ _) ?_ | refine callv_pure (backing_c _ _ _ _) ?_) | ((with_reducible first | refine hK_ _ _ ?_ | refine hK_ _ _ _ _ (Weak.refl _ _) ?_); clear hK_ K_) | clear hK_ K_)
          exact ⟨by simp [askedS, awrongS, *], hxt⟩
        · repeat' (first | refine st ?_ | refine pblock_en rfl ?_ | (refine ss ?_; intro K_ hK_) | refine vops_gf rfl ?_ | refine vops_gt rfl ?_ | (refine sk ?_; intro k_ hk_; simp only [go_sem, simprocAttr, beq_t h0, beq_t h1, beq_t h2, beq_f h3]; (with_reducible first | refine hk_ _ _ ?_ | refine hk_ _ ?_); clear hk_ k_) | ((first | refine sg ?_ | refine sc ?_); intro x_ y_ hx_ hy_; simp only [go_sem, simprocAttr, beq_t h0, beq_t h1, beq_t h2, beq_f h3]; ((first | (with_reducible first | refine hx_ ?_ | refine hy_ ?_) | (with_reducible first | refine bI_split (fun h_ => hx_ ?_) (fun h_ => hy_ ?_) | refine bI_split (fun h_ => hy_ ?_) (fun h_ => hx_ ?_)) <;> try rw [h_]) <;> clear hx_ hy_ x_ y_)) | (with_reducible first | refine callv_pure (size_c _ _) ?_ | refine callv_pure (prot_c _ _) ?_ | refine callv_pure (flags_c _ _ _) ?_ | refine callv_pure (backing_c _ _ _ _) ?_) | ((with_reducible first | refine hK_ _ _ ?_ | refine hK_ _ _ _ _ (Weak.refl _ _) ?_); clear hK_ K_) | clear hK_ K_)
          exact ⟨by simp [askedS, awrongS, *], hxt⟩
      · repeat' (first | refine st ?_ | refine pblock_en rfl ?_ | (refine ss ?_; intro K_ hK_) | refine vops_gf rfl ?_ | refine vops_gt rfl ?_ | (refine sk ?_; intro k_ hk_; simp only [go_sem, simprocAttr, beq_t h0, beq_t h1, beq_f h2]; (with_reducible first | refine hk_ _ _ ?_ | refine hk_ _ ?_); clear hk_ k_) | ((first | refine sg ?_ | refine sc ?_); intro x_ y_ hx_ hy_; simp only [go_sem, simprocAttr, beq_t h0, beq_t h1, beq_f h2]; ((first | (with_reducible first | refine hx_ ?_ | refine hy_ ?_) | (with_reducible first | refine bI_split (fun h_ => hx_ ?_) (fun h_ => hy_ ?_) | refine bI_split (fun h_ => hy_ ?_) (fun h_ => hx_ ?_)) <;> try rw [h_]) <;> clear hx_ hy_ x_ y_)) | (with_reducible first | refine callv_pure (size_c _ _) ?_ | refine callv_pure (prot_c _ _) ?_ | refine callv_pure (flags_c _ _ _) ?_ | refine callv_pure (backing_c _ _ _ _) ?_) | ((with_reducible first | refine hK_ _ _ ?_ | refine hK_ _ _ _ _ (Weak.refl _ _) ?_); clear hK_ K_) | clear hK_ K_)
        exact ⟨by simp [askedS, awrongS, *], hxt⟩
    · repeat' (first | refine st ?_ | refine pblock_en rfl ?_ | (refine ss ?_; intro K_ hK_) | refine vops_gf rfl ?_ | refine vops_gt rfl ?_ | (refine sk ?_; intro k_ hk_; simp only [go_sem, simprocAttr, beq_t h0, beq_f h1]; (with_reducible first | refine hk_ _ _ ?_ | refine hk_ _ ?_); clear hk_ k_) | ((first | refine sg ?_ | refine sc ?_); intro x_ y_ hx_ hy_; simp only [go_sem, simprocAttr, beq_t h0, beq_f h1]; ((first | (with_reducible first | refine hx_ ?_ | refine hy_ ?_) | (with_reducible first | refine bI_split (fun h_ => hx_ ?_) (fun h_ => hy_ ?_) | refine bI_split (fun h_ => hy_ ?_) (fun h_ => hx_ ?_)) <;> try rw [h_]) <;> clear hx_ hy_ x_ y_)) | (with_reducible first | refine callv_pure (size_c _ _) ?_ | refine callv_pure (prot_c _ _) ?_ | refine callv_pure (flags_c _ _ _) ?_ | refine callv_pure (backing_c _ _ _ _) ?_) | ((with_reducible first | refine hK_ _ _ ?_ | refine hK_ _ _ _ _ (Weak.refl _ _) ?_); clear hK_ K_) | clear hK_ K_)
      exact ⟨by simp [askedS, awrongS, *], hxt⟩
  · repeat' (first | refine st ?_ | refine pblock_en rfl ?_ | (refine ss ?_; intro K_ hK_) | refine vops_gf rfl ?_ | refine vops_gt rfl ?_ | (refine sk ?_; intro k_ hk_; simp only [go_sem, simprocAttr, beq_f h0]; (with_reducible first | refine hk_ _ _ ?_ | refine hk_ _ ?_); clear hk_ k_) | ((first | refine sg ?_ | refine sc ?_); intro x_ y_ hx_ hy_; simp only [go_sem, simprocAttr, beq_f h0]; ((first | (with_reducible first | refine hx_ ?_ | refine hy_ ?_) | (with_reducible first | refine bI_split (fun h_ => hx_ ?_) (fun h_ => hy_ ?_) | refine bI_split (fun h_ => hy_ ?_) (fun h_ => hx_ ?_)) <;> try rw [h_]) <;> clear hx_ hy_ x_ y_)) | (with_reducible first | refine callv_pure (size_c _ _) ?_ | refine callv_pure (prot_c _ _) ?_ | refine callv_pure (flags_c _ _ _) ?_ | refine callv_pure (backing_c _ _ _ _) ?_) | ((with_reducible first | refine hK_ _ _ ?_ | refine hK_ _ _ _ _ (Weak.refl _ _) ?_); clear hK_ K_) | clear hK_ K_)
    exact ⟨by simp [askedS, awrongS, *], hxt⟩
theorem fixed_c (l : List Ar) (hl : l.length < 100000) (a n f : Int) (H : Heap) : ACalls Try.prog 48 [.s (LV Ar.c l), .s (I a), .s (I n), .s (I f)] H (.tup [.s (I (fixedS l a n f).1), .s (I (fixedS l a n f).2)]) H := by
  have hl' : l.length < 1000000 := by omega
  refine acalls_pure te_ok mix Try.func48 rfl Try.call48 (by kernel_rfl) (by kernel_rfl) rfl rfl ?_; simp only [Try.results48]
  by_cases h0 : (rangeS a n).2.2 = 0
  · by_cases h1 : iand f 2 = 0
    · repeat' (first | refine st ?_ | refine pblock_en rfl ?_ | (refine ss ?_; intro K_ hK_) | refine vops_gf rfl ?_ | refine vops_gt rfl ?_ | (refine sk ?_; intro k_ hk_; simp only [go_sem, simprocAttr, bne_f h0, bne_f h1]; (with_reducible first | refine hk_ _ _ ?_ | refine hk_ _ ?_); clear hk_ k_) | ((first | refine sg ?_ | refine sc ?_); intro x_ y_ hx_ hy_; simp only [go_sem, simprocAttr, bne_f h0, bne_f h1]; ((first | (with_reducible first | refine hx_ ?_ | refine hy_ ?_) | (with_reducible first | refine bI_split (fun h_ => hx_ ?_) (fun h_ => hy_ ?_) | refine bI_split (fun h_ => hy_ ?_) (fun h_ => hx_ ?_)) <;> try rw [h_]) <;> clear hx_ hy_ x_ y_)) | (with_reducible first | refine callv_pure (range_c _ _ _) ?_ | refine callv_pure (Within_c l hl' _ _ _) ?_) | ((with_reducible first | refine hK_ _ _ ?_ | refine hK_ _ _ _ _ (Weak.refl _ _) ?_); clear hK_ K_) | clear hK_ K_)
      exact ⟨by simp [fixedS, *], hxt⟩
    · by_cases h2 : (WithinS l (rangeS a n).1 (rangeS a n).2.1).length > 0
      · repeat' (first | refine st ?_ | refine pblock_en rfl ?_ | (refine ss ?_; intro K_ hK_) | refine vops_gf rfl ?_ | refine vops_gt rfl ?_ | (refine sk ?_; intro k_ hk_; simp only [go_sem, simprocAttr, bne_f h0, bne_t h1, ipos h2]; (with_reducible first | refine hk_ _ _ ?_ | refine hk_ _ ?_); clear hk_ k_) | ((first | refine sg ?_ | refine sc ?_); intro x_ y_ hx_ hy_; simp only [go_sem, simprocAttr, bne_f h0, bne_t h1, ipos h2]; ((first | (with_reducible first | refine hx_ ?_ | refine hy_ ?_) | (with_reducible first | refine bI_split (fun h_ => hx_ ?_) (fun h_ => hy_ ?_) | refine bI_split (fun h_ => hy_ ?_) (fun h_ => hx_ ?_)) <;> try rw [h_]) <;> clear hx_ hy_ x_ y_)) | (with_reducible first | refine callv_pure (range_c _ _ _) ?_ | refine callv_pure (Within_c l hl' _ _ _) ?_) | ((with_reducible first | refine hK_ _ _ ?_ | refine hK_ _ _ _ _ (Weak.refl _ _) ?_); clear hK_ K_) | clear hK_ K_)
        exact ⟨by unfold fixedS; rw [if_neg (by simp [h0]), if_pos ⟨h1, h2⟩], hxt⟩
      · repeat' (first | refine st ?_ | refine pblock_en rfl ?_ | (refine ss ?_; intro K_ hK_) | refine vops_gf rfl ?_ | refine vops_gt rfl ?_ | (refine sk ?_; intro k_ hk_; simp only [go_sem, simprocAttr, bne_f h0, bne_t h1, inpos h2]; (with_reducible first | refine hk_ _ _ ?_ | refine hk_ _ ?_); clear hk_ k_) | ((first | refine sg ?_ | refine sc ?_); intro x_ y_ hx_ hy_; simp only [go_sem, simprocAttr, bne_f h0, bne_t h1, inpos h2]; ((first | (with_reducible first | refine hx_ ?_ | refine hy_ ?_) | (with_reducible first | refine bI_split (fun h_ => hx_ ?_) (fun h_ => hy_ ?_) | refine bI_split (fun h_ => hy_ ?_) (fun h_ => hx_ ?_)) <;> try rw [h_]) <;> clear hx_ hy_ x_ y_)) | (with_reducible first | refine callv_pure (range_c _ _ _) ?_ | refine callv_pure (Within_c l hl' _ _ _) ?_) | ((with_reducible first | refine hK_ _ _ ?_ | refine hK_ _ _ _ _ (Weak.refl _ _) ?_); clear hK_ K_) | clear hK_ K_)
        exact ⟨by unfold fixedS; rw [if_neg (by simp [h0]), if_neg (fun h => h2 h.2)], hxt⟩
  · repeat' (first | refine st ?_ | refine pblock_en rfl ?_ | (refine ss ?_; intro K_ hK_) | refine vops_gf rfl ?_ | refine vops_gt rfl ?_ | (refine sk ?_; intro k_ hk_; simp only [go_sem, simprocAttr, bne_t h0]; (with_reducible first | refine hk_ _ _ ?_ | refine hk_ _ ?_); clear hk_ k_) | ((first | refine sg ?_ | refine sc ?_); intro x_ y_ hx_ hy_; simp only [go_sem, simprocAttr, bne_t h0]; ((first | (with_reducible first | refine hx_ ?_ | refine hy_ ?_) | (with_reducible first | refine bI_split (fun h_ => hx_ ?_) (fun h_ => hy_ ?_) | refine bI_split (fun h_ => hy_ ?_) (fun h_ => hx_ ?_)) <;> try rw [h_]) <;> clear hx_ hy_ x_ y_)) | (with_reducible first | refine callv_pure (range_c _ _ _) ?_ | refine callv_pure (Within_c l hl' _ _ _) ?_) | ((with_reducible first | refine hK_ _ _ ?_ | refine hK_ _ _ _ _ (Weak.refl _ _) ?_); clear hK_ K_) | clear hK_ K_)
    exact ⟨by simp [fixedS, *], hxt⟩
theorem place_c (l : List Ar) (hl : l.length < 100000) (a n f : Int) (H : Heap) : ACalls Try.prog 22 [.s (LV Ar.c l), .s (I a), .s (I n), .s (I f)] H (.tup [.s (I (placeS l a n f).1), .s (I (placeS l a n f).2)]) H := by
  refine acalls_pure te_ok mix Try.func22 rfl Try.call22 (by kernel_rfl) (by kernel_rfl) rfl rfl ?_; simp only [Try.results22]
  cases hm : mayS l
  · repeat' (first | refine st ?_ | refine pblock_en rfl ?_ | (refine ss ?_; intro K_ hK_) | refine vops_gf rfl ?_ | refine vops_gt rfl ?_ | (refine sk ?_; intro k_ hk_; simp only [go_sem, simprocAttr, hm]; (with_reducible first | refine hk_ _ _ ?_ | refine hk_ _ ?_); clear hk_ k_) | ((first | refine sg ?_ | refine sc ?_); intro x_ y_ hx_ hy_; simp only [go_sem, simprocAttr, hm]; ((first | (with_reducible first | refine hx_ ?_ | refine hy_ ?_) | (with_reducible first | refine bI_split (fun h_ => hx_ ?_) (fun h_ => hy_ ?_) | refine bI_split (fun h_ => hy_ ?_) (fun h_ => hx_ ?_)) <;> try rw [h_]) <;> clear hx_ hy_ x_ y_)) | (with_reducible first | refine callv_pure (mmay_c l hl _) ?_) | ((with_reducible first | refine hK_ _ _ ?_ | refine hK_ _ _ _ _ (Weak.refl _ _) ?_); clear hK_ K_) | clear hK_ K_)
    exact ⟨by unfold placeS; rw [if_pos hm], hxt⟩
  by_cases h1 : iand f 1 = 0
  case neg =>
    repeat' (first | refine st ?_ | refine pblock_en rfl ?_ | (refine ss ?_; intro K_ hK_) | refine vops_gf rfl ?_ | refine vops_gt rfl ?_ | (refine sk ?_; intro k_ hk_; simp only [go_sem, simprocAttr, hm, bne_t h1]; (with_reducible first | refine hk_ _ _ ?_ | refine hk_ _ ?_); clear hk_ k_) | ((first | refine sg ?_ | refine sc ?_); intro x_ y_ hx_ hy_; simp only [go_sem, simprocAttr, hm, bne_t h1]; ((first | (with_reducible first | refine hx_ ?_ | refine hy_ ?_) | (with_reducible first | refine bI_split (fun h_ => hx_ ?_) (fun h_ => hy_ ?_) | refine bI_split (fun h_ => hy_ ?_) (fun h_ => hx_ ?_)) <;> try rw [h_]) <;> clear hx_ hy_ x_ y_)) | (with_reducible first | refine callv_pure (mmay_c l hl _) ?_ | refine callv_pure (fixed_c l hl _ _ _ _) ?_) | ((with_reducible first | refine hK_ _ _ ?_ | refine hK_ _ _ _ _ (Weak.refl _ _) ?_); clear hK_ K_) | clear hK_ K_)
    exact ⟨by simp [placeS, hm, h1], hxt⟩
  by_cases h2 : a ≠ 0 ∧ fitsS l a n = true
  · obtain ⟨h2, h3⟩ := h2
    repeat' (first | refine st ?_ | refine pblock_en rfl ?_ | (refine ss ?_; intro K_ hK_) | refine vops_gf rfl ?_ | refine vops_gt rfl ?_ | (refine sk ?_; intro k_ hk_; simp only [go_sem, simprocAttr, hm, bne_f h1, bne_t h2, h3]; (with_reducible first | refine hk_ _ _ ?_ | refine hk_ _ ?_); clear hk_ k_) | ((first | refine sg ?_ | refine sc ?_); intro x_ y_ hx_ hy_; simp only [go_sem, simprocAttr, hm, bne_f h1, bne_t h2, h3]; ((first | (with_reducible first | refine hx_ ?_ | refine hy_ ?_) | (with_reducible first | refine bI_split (fun h_ => hx_ ?_) (fun h_ => hy_ ?_) | refine bI_split (fun h_ => hy_ ?_) (fun h_ => hx_ ?_)) <;> try rw [h_]) <;> clear hx_ hy_ x_ y_)) | (with_reducible first | refine callv_pure (mmay_c l hl _) ?_ | refine callv_pure (fits_c l hl _ _ _) ?_) | ((with_reducible first | refine hK_ _ _ ?_ | refine hK_ _ _ _ _ (Weak.refl _ _) ?_); clear hK_ K_) | clear hK_ K_)
    exact ⟨by simp [placeS, hm, h1, h2, h3], hxt⟩
  · by_cases h8 : iand f 8 = 0
    · have e : chooseS l n f = highestS l 65536 2097152 n := by simp [chooseS, h8]
      cases h9 : (highestS l 65536 2097152 n).2
      all_goals
        by_cases h2a : a = 0
        · repeat' (first | refine st ?_ | refine pblock_en rfl ?_ | (refine ss ?_; intro K_ hK_) | refine vops_gf rfl ?_ | refine vops_gt rfl ?_ | (refine sk ?_; intro k_ hk_; simp only [go_sem, simprocAttr, hm, bne_f h1, bne_f h2a, bne_f h8, h9]; (with_reducible first | refine hk_ _ _ ?_ | refine hk_ _ ?_); clear hk_ k_) | ((first | refine sg ?_ | refine sc ?_); intro x_ y_ hx_ hy_; simp only [go_sem, simprocAttr, hm, bne_f h1, bne_f h2a, bne_f h8, h9]; ((first | (with_reducible first | refine hx_ ?_ | refine hy_ ?_) | (with_reducible first | refine bI_split (fun h_ => hx_ ?_) (fun h_ => hy_ ?_) | refine bI_split (fun h_ => hy_ ?_) (fun h_ => hx_ ?_)) <;> try rw [h_]) <;> clear hx_ hy_ x_ y_)) | (with_reducible first | refine callv_pure (mmay_c l hl _) ?_ | refine callv_pure (fits_c l hl _ _ _) ?_ | refine callv_pure (highest_c l hl _ _ _ _) ?_) | ((with_reducible first | refine hK_ _ _ ?_ | refine hK_ _ _ _ _ (Weak.refl _ _) ?_); clear hK_ K_) | clear hK_ K_)
          exact ⟨by simp [placeS, hm, h1, h2a, e, h9], hxt⟩
        · have h3 : fitsS l a n = false := by simpa [h2a] using h2
          repeat' (first | refine st ?_ | refine pblock_en rfl ?_ | (refine ss ?_; intro K_ hK_) | refine vops_gf rfl ?_ | refine vops_gt rfl ?_ | (refine sk ?_; intro k_ hk_; simp only [go_sem, simprocAttr, hm, bne_f h1, bne_t h2a, h3, bne_f h8, h9]; (with_reducible first | refine hk_ _ _ ?_ | refine hk_ _ ?_); clear hk_ k_) | ((first | refine sg ?_ | refine sc ?_); intro x_ y_ hx_ hy_; simp only [go_sem, simprocAttr, hm, bne_f h1, bne_t h2a, h3, bne_f h8, h9]; ((first | (with_reducible first | refine hx_ ?_ | refine hy_ ?_) | (with_reducible first | refine bI_split (fun h_ => hx_ ?_) (fun h_ => hy_ ?_) | refine bI_split (fun h_ => hy_ ?_) (fun h_ => hx_ ?_)) <;> try rw [h_]) <;> clear hx_ hy_ x_ y_)) | (with_reducible first | refine callv_pure (mmay_c l hl _) ?_ | refine callv_pure (fits_c l hl _ _ _) ?_ | refine callv_pure (highest_c l hl _ _ _ _) ?_) | ((with_reducible first | refine hK_ _ _ ?_ | refine hK_ _ _ _ _ (Weak.refl _ _) ?_); clear hK_ K_) | clear hK_ K_)
          exact ⟨by simp [placeS, hm, h1, h2a, h3, e, h9], hxt⟩
    · have e : chooseS l n f = lowestS l 65536 2097152 n := by simp [chooseS, h8]
      cases h9 : (lowestS l 65536 2097152 n).2
      all_goals
        by_cases h2a : a = 0
        · repeat' (first | refine st ?_ | refine pblock_en rfl ?_ | (refine ss ?_; intro K_ hK_) | refine vops_gf rfl ?_ | refine vops_gt rfl ?_ | (refine sk ?_; intro k_ hk_; simp only [go_sem, simprocAttr, hm, bne_f h1, bne_f h2a, bne_t h8, h9]; (with_reducible first | refine hk_ _ _ ?_ | refine hk_ _ ?_); clear hk_ k_) | ((first | refine sg ?_ | refine sc ?_); intro x_ y_ hx_ hy_; simp only [go_sem, simprocAttr, hm, bne_f h1, bne_f h2a, bne_t h8, h9]; ((first | (with_reducible first | refine hx_ ?_ | refine hy_ ?_) | (with_reducible first | refine bI_split (fun h_ => hx_ ?_) (fun h_ => hy_ ?_) | refine bI_split (fun h_ => hy_ ?_) (fun h_ => hx_ ?_)) <;> try rw [h_]) <;> clear hx_ hy_ x_ y_)) | (with_reducible first | refine callv_pure (mmay_c l hl _) ?_ | refine callv_pure (fits_c l hl _ _ _) ?_ | refine callv_pure (lowest_c l hl _ _ _ _) ?_) | ((with_reducible first | refine hK_ _ _ ?_ | refine hK_ _ _ _ _ (Weak.refl _ _) ?_); clear hK_ K_) | clear hK_ K_)
          exact ⟨by simp [placeS, hm, h1, h2a, e, h9], hxt⟩
        · have h3 : fitsS l a n = false := by simpa [h2a] using h2
          repeat' (first | refine st ?_ | refine pblock_en rfl ?_ | (refine ss ?_; intro K_ hK_) | refine vops_gf rfl ?_ | refine vops_gt rfl ?_ | (refine sk ?_; intro k_ hk_; simp only [go_sem, simprocAttr, hm, bne_f h1, bne_t h2a, h3, bne_t h8, h9]; (with_reducible first | refine hk_ _ _ ?_ | refine hk_ _ ?_); clear hk_ k_) | ((first | refine sg ?_ | refine sc ?_); intro x_ y_ hx_ hy_; simp only [go_sem, simprocAttr, hm, bne_f h1, bne_t h2a, h3, bne_t h8, h9]; ((first | (with_reducible first | refine hx_ ?_ | refine hy_ ?_) | (with_reducible first | refine bI_split (fun h_ => hx_ ?_) (fun h_ => hy_ ?_) | refine bI_split (fun h_ => hy_ ?_) (fun h_ => hx_ ?_)) <;> try rw [h_]) <;> clear hx_ hy_ x_ y_)) | (with_reducible first | refine callv_pure (mmay_c l hl _) ?_ | refine callv_pure (fits_c l hl _ _ _) ?_ | refine callv_pure (lowest_c l hl _ _ _ _) ?_) | ((with_reducible first | refine hK_ _ _ ?_ | refine hK_ _ _ _ _ (Weak.refl _ _) ?_); clear hK_ K_) | clear hK_ K_)
          exact ⟨by simp [placeS, hm, h1, h2a, h3, e, h9], hxt⟩
theorem map_c (l : List Ar) (hl : l.length < 100000) (c : Ca) (H : Heap) : ACalls Try.prog 18 [.s (LV Ar.c l), .agg c.c] H (.tup [.s (LV Ar.c (mapS l c).1), .agg (mapS l c).2.c]) H := by
  refine acalls_pure te_ok mix Try.func18 rfl Try.call18 (by kernel_rfl) (by kernel_rfl) rfl rfl ?_; simp only [Try.results18]
  cases hm : mayS l
  · repeat' (first | refine st ?_ | refine pblock_en rfl ?_ | (refine ss ?_; intro K_ hK_) | refine vops_gf rfl ?_ | refine vops_gt rfl ?_ | (refine sk ?_; intro k_ hk_; simp only [go_sem, simprocAttr, hm]; (with_reducible first | refine hk_ _ _ ?_ | refine hk_ _ ?_); clear hk_ k_) | ((first | refine sg ?_ | refine sc ?_); intro x_ y_ hx_ hy_; simp only [go_sem, simprocAttr, hm]; ((first | (with_reducible first | refine hx_ ?_ | refine hy_ ?_) | (with_reducible first | refine bI_split (fun h_ => hx_ ?_) (fun h_ => hy_ ?_) | refine bI_split (fun h_ => hy_ ?_) (fun h_ => hx_ ?_)) <;> try rw [h_]) <;> clear hx_ hy_ x_ y_)) | (with_reducible first | refine callv_pure (mmay_c l hl _) ?_ | refine callv_pure (failed_c l hl _ _) ?_) | ((with_reducible first | refine hK_ _ _ ?_ | refine hK_ _ _ _ _ (Weak.refl _ _) ?_); clear hK_ K_) | clear hK_ K_)
    exact ⟨by unfold mapS; rw [if_pos hm], hxt⟩
  by_cases h1 : (askedS c).2 = 0
  case neg =>
    repeat' (first | refine st ?_ | refine pblock_en rfl ?_ | (refine ss ?_; intro K_ hK_) | refine vops_gf rfl ?_ | refine vops_gt rfl ?_ | (refine sk ?_; intro k_ hk_; simp only [go_sem, simprocAttr, hm, bne_t h1]; (with_reducible first | refine hk_ _ _ ?_ | refine hk_ _ ?_); clear hk_ k_) | ((first | refine sg ?_ | refine sc ?_); intro x_ y_ hx_ hy_; simp only [go_sem, simprocAttr, hm, bne_t h1]; ((first | (with_reducible first | refine hx_ ?_ | refine hy_ ?_) | (with_reducible first | refine bI_split (fun h_ => hx_ ?_) (fun h_ => hy_ ?_) | refine bI_split (fun h_ => hy_ ?_) (fun h_ => hx_ ?_)) <;> try rw [h_]) <;> clear hx_ hy_ x_ y_)) | (with_reducible first | refine callv_pure (mmay_c l hl _) ?_ | refine callv_pure (asked_c _ _) ?_ | refine callv_pure (failed_c l hl _ _) ?_) | ((with_reducible first | refine hK_ _ _ ?_ | refine hK_ _ _ _ _ (Weak.refl _ _) ?_); clear hK_ K_) | clear hK_ K_)
    exact ⟨by unfold mapS; rw [if_neg (by simp [hm]), if_pos h1], hxt⟩
  by_cases h2 : (placeS l c.a (askedS c).1 c.f).2 = 0
  case neg =>
    repeat' (first | refine st ?_ | refine pblock_en rfl ?_ | (refine ss ?_; intro K_ hK_) | refine vops_gf rfl ?_ | refine vops_gt rfl ?_ | (refine sk ?_; intro k_ hk_; simp only [go_sem, simprocAttr, hm, bne_f h1, bne_t h2]; (with_reducible first | refine hk_ _ _ ?_ | refine hk_ _ ?_); clear hk_ k_) | ((first | refine sg ?_ | refine sc ?_); intro x_ y_ hx_ hy_; simp only [go_sem, simprocAttr, hm, bne_f h1, bne_t h2]; ((first | (with_reducible first | refine hx_ ?_ | refine hy_ ?_) | (with_reducible first | refine bI_split (fun h_ => hx_ ?_) (fun h_ => hy_ ?_) | refine bI_split (fun h_ => hy_ ?_) (fun h_ => hx_ ?_)) <;> try rw [h_]) <;> clear hx_ hy_ x_ y_)) | (with_reducible first | refine callv_pure (mmay_c l hl _) ?_ | refine callv_pure (asked_c _ _) ?_ | refine callv_pure (place_c l hl _ _ _ _) ?_ | refine callv_pure (failed_c l hl _ _) ?_) | ((with_reducible first | refine hK_ _ _ ?_ | refine hK_ _ _ _ _ (Weak.refl _ _) ?_); clear hK_ K_) | clear hK_ K_)
    exact ⟨by unfold mapS; rw [if_neg (by simp [hm]), if_neg (by simpa using h1), if_pos h2], hxt⟩
  have hp := put_len l (mapA c (placeS l c.a (askedS c).1 c.f).1)
  repeat' (first | refine st ?_ | refine pblock_en rfl ?_ | (refine ss ?_; intro K_ hK_) | refine vops_gf rfl ?_ | refine vops_gt rfl ?_ | (refine sk ?_; intro k_ hk_; simp only [go_sem, simprocAttr, hm, bne_f h1, bne_f h2]; (with_reducible first | refine hk_ _ _ ?_ | refine hk_ _ ?_); clear hk_ k_) | ((first | refine sg ?_ | refine sc ?_); intro x_ y_ hx_ hy_; simp only [go_sem, simprocAttr, hm, bne_f h1, bne_f h2]; ((first | (with_reducible first | refine hx_ ?_ | refine hy_ ?_) | (with_reducible first | refine bI_split (fun h_ => hx_ ?_) (fun h_ => hy_ ?_) | refine bI_split (fun h_ => hy_ ?_) (fun h_ => hx_ ?_)) <;> try rw [h_]) <;> clear hx_ hy_ x_ y_)) | (with_reducible first | refine callv_pure (mmay_c l hl _) ?_ | refine callv_pure (asked_c _ _) ?_ | refine callv_pure (place_c l hl _ _ _ _) ?_ | refine callv_pure (put_c l hl (mapA c (placeS l c.a (askedS c).1 c.f).1) _) ?_ | refine callv_pure (kept_c l _ hl (by omega) _ _) ?_) | ((with_reducible first | refine hK_ _ _ ?_ | refine hK_ _ _ _ _ (Weak.refl _ _) ?_); clear hK_ K_) | clear hK_ K_)
  exact ⟨by unfold mapS; rw [if_neg (by simp [hm]), if_neg (by simpa using h1), if_neg (by simpa using h2)], hxt⟩
theorem unmap_c (l : List Ar) (hl : l.length < 100000) (c : Ca) (H : Heap) : ACalls Try.prog 20 [.s (LV Ar.c l), .agg c.c] H (.tup [.s (LV Ar.c (unmapS l c).1), .agg (unmapS l c).2.c]) H := by
  refine acalls_pure te_ok mix Try.func20 rfl Try.call20 (by kernel_rfl) (by kernel_rfl) rfl rfl ?_; simp only [Try.results20]
  cases hm : mayS l
  · repeat' (first | refine st ?_ | refine pblock_en rfl ?_ | (refine ss ?_; intro K_ hK_) | refine vops_gf rfl ?_ | refine vops_gt rfl ?_ | (refine sk ?_; intro k_ hk_; simp only [go_sem, simprocAttr, hm]; (with_reducible first | refine hk_ _ _ ?_ | refine hk_ _ ?_); clear hk_ k_) | ((first | refine sg ?_ | refine sc ?_); intro x_ y_ hx_ hy_; simp only [go_sem, simprocAttr, hm]; ((first | (with_reducible first | refine hx_ ?_ | refine hy_ ?_) | (with_reducible first | refine bI_split (fun h_ => hx_ ?_) (fun h_ => hy_ ?_) | refine bI_split (fun h_ => hy_ ?_) (fun h_ => hx_ ?_)) <;> try rw [h_]) <;> clear hx_ hy_ x_ y_)) | (with_reducible first | refine callv_pure (mmay_c l hl _) ?_ | refine callv_pure (failed_c l hl _ _) ?_) | ((with_reducible first | refine hK_ _ _ ?_ | refine hK_ _ _ _ _ (Weak.refl _ _) ?_); clear hK_ K_) | clear hK_ K_)
    exact ⟨by unfold unmapS; rw [if_pos hm], hxt⟩
  by_cases h1 : (rangeS c.a c.l).2.2 = 0
  case neg =>
    repeat' (first | refine st ?_ | refine pblock_en rfl ?_ | (refine ss ?_; intro K_ hK_) | refine vops_gf rfl ?_ | refine vops_gt rfl ?_ | (refine sk ?_; intro k_ hk_; simp only [go_sem, simprocAttr, hm, bne_t h1]; (with_reducible first | refine hk_ _ _ ?_ | refine hk_ _ ?_); clear hk_ k_) | ((first | refine sg ?_ | refine sc ?_); intro x_ y_ hx_ hy_; simp only [go_sem, simprocAttr, hm, bne_t h1]; ((first | (with_reducible first | refine hx_ ?_ | refine hy_ ?_) | (with_reducible first | refine bI_split (fun h_ => hx_ ?_) (fun h_ => hy_ ?_) | refine bI_split (fun h_ => hy_ ?_) (fun h_ => hx_ ?_)) <;> try rw [h_]) <;> clear hx_ hy_ x_ y_)) | (with_reducible first | refine callv_pure (mmay_c l hl _) ?_ | refine callv_pure (range_c _ _ _) ?_ | refine callv_pure (failed_c l hl _ _) ?_) | ((with_reducible first | refine hK_ _ _ ?_ | refine hK_ _ _ _ _ (Weak.refl _ _) ?_); clear hK_ K_) | clear hK_ K_)
    exact ⟨by unfold unmapS; rw [if_neg (by simp [hm]), if_pos h1], hxt⟩
  have hp := cut_len l (rangeS c.a c.l).1 (rangeS c.a c.l).2.1
  repeat' (first | refine st ?_ | refine pblock_en rfl ?_ | (refine ss ?_; intro K_ hK_) | refine vops_gf rfl ?_ | refine vops_gt rfl ?_ | (refine sk ?_; intro k_ hk_; simp only [go_sem, simprocAttr, hm, bne_f h1]; (with_reducible first | refine hk_ _ _ ?_ | refine hk_ _ ?_); clear hk_ k_) | ((first | refine sg ?_ | refine sc ?_); intro x_ y_ hx_ hy_; simp only [go_sem, simprocAttr, hm, bne_f h1]; ((first | (with_reducible first | refine hx_ ?_ | refine hy_ ?_) | (with_reducible first | refine bI_split (fun h_ => hx_ ?_) (fun h_ => hy_ ?_) | refine bI_split (fun h_ => hy_ ?_) (fun h_ => hx_ ?_)) <;> try rw [h_]) <;> clear hx_ hy_ x_ y_)) | (with_reducible first | refine callv_pure (mmay_c l hl _) ?_ | refine callv_pure (range_c _ _ _) ?_ | refine callv_pure (cut_c l hl _ _ _) ?_ | refine callv_pure (kept_c l _ hl (by omega) _ _) ?_) | ((with_reducible first | refine hK_ _ _ ?_ | refine hK_ _ _ _ _ (Weak.refl _ _) ?_); clear hK_ K_) | clear hK_ K_)
  exact ⟨by unfold unmapS; rw [if_neg (by simp [hm]), if_neg (by simpa using h1)], hxt⟩
end Go.Abs
/-
  What the references of gaps and mapping compute.
-/
namespace Go.Abs
set_option linter.unusedVariables false
set_option linter.unusedSimpArgs false
open Go.RowKit

def allFree (s : List Pg) (i n : Nat) : Bool := (List.range' i n).all fun p => !(pgD s p).i
def freeP (s : List Pg) (i n : Int) : Bool := decide (16 ≤ i) && decide (1 ≤ n) && decide (n ≤ 496) && decide (i + n ≤ 512) && allFree s i.toNat n.toNat
def touchedS (p : Int) (lo hi : Int) : Bool := decide (lo < hi) && decide (lo < 4096 * p + 4096) && decide (hi > 4096 * p)
def someP (s : List Pg) (lo hi : Int) : Bool := (List.range 512).any fun p => (pgD s p).i && touchedS p lo hi
def okSize (n : Int) : Bool := decide (1 ≤ n) && decide (n ≤ 2031616) && decide (n % 4096 = 0)
def rfitsS (l : List Ar) (a n : Int) : Bool := okSize n && decide (a % 4096 = 0) && decide (0 ≤ a) && decide (a ≤ 2097152) && freeP (ofS l) (a / 4096) (n / 4096)
def chStep (s : List Pg) (n : Int) (gr : Bool) (best : Int) (p : Nat) : Int :=
  if decide (4096 * (p : Int) + n ≤ 2097152) && freeP s p (n / 4096) && (decide (best < 0) || gr) then 4096 * (p : Int) else best
def chooseP (s : List Pg) (n : Int) (gr : Bool) : Int := if okSize n then (List.range' 16 496).foldl (chStep s n gr) (-1) else -1
def wAt (a : At) (k : Int) : At := { a with o := if a.b > 0 then a.o + 4096 * k else a.o }
def withP (s : List Pg) (i j : Nat) (a : At) : List Pg := upd s i j fun p _ => pgAt (wAt a ((p : Int) - i))
def withoutP (s : List Pg) (i j : Nat) : List Pg := upd s i j fun _ _ => Pg.zero
def rkeptS (l : List Ar) (s : List Pg) (v : Int) : List Ar × Ar := if (listS s).length > 24 then (l, ansE 9) else (listS s, ansV v)
def rplaceS (l : List Ar) (a n f : Int) : Int × Int :=
  if f % 2 = 1 then
    if (rangeS a n).2.2 ≠ 0 then (0, (rangeS a n).2.2)
    else if f / 2 % 2 = 1 ∧ someP (ofS l) (rangeS a n).1 (rangeS a n).2.1 = true then (0, 6) else (a, 0)
  else if a ≠ 0 ∧ rfitsS l a n = true then (a, 0)
  else if chooseP (ofS l) n (decide (f / 8 % 2 = 0)) < 0 then (0, 5) else (chooseP (ofS l) n (decide (f / 8 % 2 = 0)), 0)
def rwrong0 (c : Ca) : Int := if (sizeS c.l).2 ≠ 0 then (sizeS c.l).2 else if c.p < 0 ∨ c.p > 7 ∨ c.f < 0 ∨ c.f > 15 ∨ c.f % 4 = 2 then 1 else 0
def rwrongS (c : Ca) : Int := if rwrong0 c ≠ 0 then rwrong0 c else backS c.b c.o (sizeS c.l).1
def rAt (c : Ca) : At := ⟨c.p, decide (c.f / 4 % 2 = 1), c.b, c.o⟩
def rmapS (l : List Ar) (c : Ca) : List Ar × Ar :=
  if rwrongS c ≠ 0 then (l, ansE (rwrongS c))
  else if (rplaceS l c.a (sizeS c.l).1 c.f).2 ≠ 0 then (l, ansE (rplaceS l c.a (sizeS c.l).1 c.f).2)
  else rkeptS l (withP (ofS l) ((rplaceS l c.a (sizeS c.l).1 c.f).1 / 4096).toNat (((rplaceS l c.a (sizeS c.l).1 c.f).1 + (sizeS c.l).1) / 4096).toNat (rAt c)) (rplaceS l c.a (sizeS c.l).1 c.f).1
def runmapS (l : List Ar) (c : Ca) : List Ar × Ar :=
  if (rangeS c.a c.l).2.2 ≠ 0 then (l, ansE (rangeS c.a c.l).2.2)
  else rkeptS l (withoutP (ofS l) ((rangeS c.a c.l).1 / 4096).toNat ((rangeS c.a c.l).2.1 / 4096).toNat) 0

theorem allFree_iff (s : List Pg) (i n : Nat) : allFree s i n = true ↔ ∀ p, i ≤ p → p < i + n → (pgD s p).i = false := by
  unfold allFree
  rw [List.all_eq_true]
  constructor
  · intro h p h1 h2
    have := h p (List.mem_range'_1.2 ⟨h1, h2⟩)
    simpa using this
  · intro h p hp
    obtain ⟨h1, h2⟩ := List.mem_range'_1.1 hp
    simp [h p h1 h2]
theorem chooseP_bd (s : List Pg) (n : Int) (gr : Bool) : ∀ m, m ≤ 496 → let b := (List.range' 16 m).foldl (chStep s n gr) (-1); b = -1 ∨ (65536 ≤ b ∧ b + n ≤ 2097152)
  | 0, _ => .inl rfl
  | m + 1, h => by
    have ih := chooseP_bd s n gr m (by omega)
    simp only [List.range'_concat, Nat.one_mul, List.foldl_append, List.foldl_cons, List.foldl_nil] at ih ⊢
    generalize (List.range' 16 m).foldl (chStep s n gr) (-1) = b at ih
    unfold chStep
    split
    · rename_i hc
      simp only [Bool.and_eq_true, decide_eq_true_eq] at hc
      exact .inr ⟨by omega, hc.1.1⟩
    · exact ih
theorem rplace_bd {l : List Ar} {a n f : Int} (h0 : 1 ≤ n) (h1 : n ≤ 2031616) (hn : n % 4096 = 0) (h : (rplaceS l a n f).2 = 0) : 65536 ≤ (rplaceS l a n f).1 ∧ (rplaceS l a n f).1 + n ≤ 2097152 := by
  unfold rplaceS at h ⊢
  split
  · split
    · rename_i hr
      simp_all
    · split
      · simp_all
      · rename_i hr _
        have hz : sizeS n = (n, 0) := by
          have : (n + 4095) / 4096 * 4096 = n := by omega
          unfold sizeS; rw [if_neg (by omega), if_neg (by omega), this]
        simp only [rangeS, hz] at hr
        simp only
        repeat' split at hr
        all_goals first | omega | (exfalso; simp_all; done)
  · split
    · rename_i h2
      obtain ⟨_, h2⟩ := h2
      simp only [rfitsS, okSize, freeP, Bool.and_eq_true, decide_eq_true_eq] at h2
      simp only
      omega
    · split
      · simp_all
      · rename_i h3
        simp only
        unfold chooseP at h3 ⊢
        split
        · have := chooseP_bd (ofS l) n (decide (f / 8 % 2 = 0)) 496 (Nat.le_refl _)
          simp_all
          omega
        · simp_all
end Go.Abs
