/-
  A slice of slices that is handed over.
-/
import Derived.Test.YtcgogenmikakkaaAbs12
namespace Go.Abs
set_option linter.unusedVariables false
set_option linter.unusedSimpArgs false
open Go.RowKit

theorem Rel.weaken {B : Nat} {ρ : Env} {H : Heap} {w : World} (hr : Rel B ρ H w) {b cb co cc : Nat} {blk : Blk} {cells' : List SV} {vs : List Value} (hat : ρ b = .at_ cb co cc) (hx : H.m b = some blk) (hv : Al2 (CS ρ) cells' vs) (hc : ∀ (j : Nat) (v : Value), vs[j]? = some v → w.cell? ⟨cb, co + j, none⟩ = some v) :
    Rel B ρ (H.set b (some { blk with cells := cells' })) w ∧ Step ρ H w ρ (H.set b (some { blk with cells := cells' })) w := by
  have hm : ∀ b' x, (H.set b (some { blk with cells := cells' })).m b' = some x → ∃ y, H.m b' = some y ∧ y.wr = x.wr := fun b' x hh => by
    by_cases e : b' = b
    · subst e; rw [Heap.set_same] at hh; cases hh; exact ⟨blk, hx, rfl⟩
    · rw [Heap.set_ne _ _ _ e] at hh; exact ⟨x, hh, rfl⟩
  have ho : ∀ k, Own ρ (H.set b (some { blk with cells := cells' })) k → Own ρ H k := by
    rintro k ⟨b', co, cc, x, g1, g2, g3⟩
    obtain ⟨y, h1, h2⟩ := hm _ _ g2
    exact ⟨b', co, cc, y, g1, h1, by rw [h2]; exact g3⟩
  refine hr.with ⟨⟨hr.hB, hr.fresh, fun b' x hh => ?_, fun b' cb' co' cc' x g1 g2 => ?_, fun b1 b2 k co1 cc1 co2 cc2 x1 x2 hne g1 g2 g3 g4 => ?_⟩, ⟨rfl, rfl, rfl, Nat.le_refl _, fun _ _ _ => rfl, fun k hk => .inl (ho k hk), Le.refl _, fun b cb co cc h h' => (by rw [h] at h'; cases h'), Nat.le_refl _, fun _ _ h => h, fun _ _ _ h => .inl h⟩⟩
  · obtain ⟨y, h1, _⟩ := hm _ _ hh; exact hr.live b' y h1
  · by_cases e : b' = b
    · subst e
      rw [Heap.set_same] at g2; cases g2
      rw [hat] at g1; cases g1
      obtain ⟨C, T, fz, k1, k2, k3, k4⟩ := hr.blk b' cb co cc blk hat hx
      refine ⟨C, T, fz, k1, fun j sv hj => ?_, k3, k4⟩
      obtain ⟨v, h1, h2⟩ := hv.get hj
      have := hc j v h1
      simp only [World.cell?, k1] at this
      exact ⟨v, this, h2⟩
    · rw [Heap.set_ne _ _ _ e] at g2
      exact hr.blk b' cb' co' cc' x g1 g2
  · obtain ⟨y1, h1, e1⟩ := hm _ _ g3
    obtain ⟨y2, h2, e2⟩ := hm _ _ g4
    have := hr.sep b1 b2 k co1 cc1 co2 cc2 y1 y2 hne g1 g2 h1 h2
    rw [← e1, ← e2]; exact this

/-- a slice of slices is seen as one that does not change any more -/
theorem frz_deep {B : Nat} {ρ : Env} {H H1 : Heap} {w : World} (hr : Rel B ρ H w) {b k : Nat} {gr : Bool} {blk : Blk} {cells' : List SV} {v : Value} (hv : CS ρ (.sl b 0 k gr) v) (hb : H.m b = some blk) (hw : blk.wr = true) (hl : FrzL 0 H blk.cells cells' H1) (hb1 : H1.m b = some blk) :
    ∃ ρ', Rel B ρ' (H1.set b none) w ∧ Step ρ H w ρ' (H1.set b none) w ∧ CS ρ' (.vs k cells') v := by
  obtain ⟨cb, co, cc, o, c, hat, hlc, hoo, hvv, _⟩ := sl_at hr hv hb
  obtain ⟨vs, h1, h2, h3⟩ := hr.row hat hb 0 blk.cells.length (by simp)
  rw [List.drop_zero, List.take_length] at h1
  obtain ⟨ρ1, a1, a2, ⟨a3, a4⟩, a5, _⟩ := frzL_ok hr h1 hl
  have hat1 : ρ1 b = .at_ cb co cc := by
    rcases a2.le b with h | h | h
    · rw [hat] at h; cases h
    · rw [h, hat]
    · exact absurd h (a1.live b blk hb1)
  obtain ⟨b1, b2⟩ := a1.weaken hat1 hb1 a3 (fun j v hj => by have := h3 j v hj; rwa [Nat.zero_add] at this)
  obtain ⟨ρ2, c1, c2, c3⟩ := b1.freeze hat1 (Heap.set_same _ _ _) hw (List.all_eq_true.1 a4)
  rw [Heap.set_set] at c1 c2
  refine ⟨ρ2, c1, (a2.trans b2).trans c2, ?_⟩
  simp only [CS]
  exact ⟨_, c, cb, co, hvv, hlc, fun hne => by rw [hoo hne, Nat.add_zero], (fun h => nomatch h), c3⟩
theorem callv_deep {P : Program} {f : FuncId} {H H1 : Heap} {K : AV → Heap → Prop} {b k : Nat} {gr : Bool} {blk : Blk} {cells' : List SV} (hb : H.m b = some blk) (hw : blk.wr = true) (hl : FrzL 0 H blk.cells cells' H1) (hb1 : H1.m b = some blk)
    (h : CallV P f [.s (.vs k cells')] (H1.set b none) K) : CallV P f [.s (.sl b 0 k gr)] H K := by
  obtain ⟨R, k1, k2⟩ := h
  refine ⟨R, ⟨k1.1, fun B ρ w cargs hrel hargs => ?_⟩, k2⟩
  match cargs, hargs with
  | [v], hargs =>
    obtain ⟨ρ1, a1, a2, a3⟩ := frz_deep hrel hargs.1 hb hw hl hb1
    refine (k1.2 B ρ1 w [v] a1 ⟨a3, trivial⟩).mono ?_
    rintro e w' ⟨rv, ρ0, r1, H2, he, h1, h2, h3, hR⟩
    exact ⟨rv, ρ0, r1, H2, he, h1, h2, a2.trans h3, hR⟩
  | [], hargs => exact hargs.elim
  | _ :: _ :: _, hargs => exact hargs.2.elim
end Go.Abs
