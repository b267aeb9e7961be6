/-
  Halves, and what was protected.
-/
import Derived.Test.YtcgogenmikakkaaM5
namespace Go.Abs
set_option linter.unusedVariables false
set_option linter.unusedSimpArgs false

theorem kept_val {was now : List Ar} {v : Int} (h : now.length ≤ 24) : keptS was now v = (now, ansV v) := by unfold keptS; rw [if_neg (by omega)]
theorem kept_nine {was now : List Ar} {v : Int} (h : ¬ now.length ≤ 24) : (keptS was now v).2.s = 9 := by rw [kept_err, if_pos (by omega)]
def callP (a l p : Int) : Ca := ⟨0, a, l, 0, 0, p, 0, 0, 0⟩
theorem protect_at {x : List Ar} (hx : mayS x = true) {i j : Nat} (h1 : 16 ≤ i) (h2 : i < j) (h3 : j ≤ 512) {p : Int} (h0 : 0 ≤ p) (h7 : p ≤ 7) :
    protectS x (callP (4096 * (i : Int)) (4096 * ((j - i : Nat) : Int)) p) = if covered x (4096 * (i : Int)) (4096 * (j : Int)) then keptS x (setS x (4096 * (i : Int)) (4096 * (j : Int)) p) 0 else (x, ansE 7) := by
  rw [protect_al hx h1 h2 h3 (c := callP _ _ p) rfl rfl, if_neg (by show ¬ (p < 0 ∨ p > 7); omega)]; rfl
theorem halves {x : List Ar} (hx : mayS x = true) {i m j : Nat} (h1 : 16 ≤ i) (h2 : i < m) (h2' : m < j) (h3 : j ≤ 512) {p : Int} (h0 : 0 ≤ p) (h7 : p ≤ 7) :
    let Y := protectS x (callP (4096 * (i : Int)) (4096 * ((j - i : Nat) : Int)) p); let Z := protectS x (callP (4096 * (i : Int)) (4096 * ((m - i : Nat) : Int)) p); let W := protectS Z.1 (callP (4096 * (m : Int)) (4096 * ((j - m : Nat) : Int)) p)
    (Y.2.s = 9 ∨ Z.2.s = 9 ∨ W.2.s = 9) ∨ (Y.2.s ≠ 0 ∧ (Z.2.s ≠ 0 ∨ W.2.s ≠ 0)) ∨ (Y.2.s = 0 ∧ Z.2.s = 0 ∧ W.2.s = 0 ∧ Y.1 = W.1) := by
  intro Y Z W
  obtain ⟨hr, hl⟩ := may_right hx
  have eY : Y = _ := protect_at hx h1 (show i < j by omega) h3 h0 h7
  have eZ : Z = _ := protect_at hx h1 h2 (show m ≤ 512 by omega) h0 h7
  obtain ⟨y1, y2⟩ := set_spec hr h1 (show i < j by omega) h3 h0 h7
  obtain ⟨z1, z2⟩ := set_spec hr h1 h2 (show m ≤ 512 by omega) h0 h7
  have cY := covered_iff hr h1 (show i < j by omega) h3
  have cZ := covered_iff hr h1 h2 (show m ≤ 512 by omega)
  cases hcZ : covered x (4096 * (i : Int)) (4096 * (m : Int)) with
  | false =>
    have hY : covered x (4096 * (i : Int)) (4096 * (j : Int)) = false := by
      cases hh : covered x (4096 * (i : Int)) (4096 * (j : Int)) with
      | false => rfl
      | true =>
        have := cZ.2 fun q q1 q2 => cY.1 hh q q1 (by omega)
        rw [hcZ] at this; cases this
    rw [hY] at eY; rw [hcZ] at eZ
    refine .inr (.inl ⟨?_, .inl ?_⟩)
    · rw [eY]; simp [ansE]
    · rw [eZ]; simp [ansE]
  | true =>
    rw [hcZ, if_pos rfl] at eZ
    by_cases hz24 : (setS x (4096 * (i : Int)) (4096 * (m : Int)) p).length ≤ 24
    case neg => exact .inl (.inr (.inl (by rw [eZ]; exact kept_nine hz24)))
    rw [kept_val hz24] at eZ
    generalize setS x (4096 * (i : Int)) (4096 * (m : Int)) p = z at eZ z1 z2 hz24
    have hz := may_of z1 hz24
    have eW : W = protectS z (callP (4096 * (m : Int)) (4096 * ((j - m : Nat) : Int)) p) := by show protectS Z.1 _ = _; rw [eZ]
    rw [protect_at hz (show 16 ≤ m by omega) h2' h3 h0 h7] at eW
    obtain ⟨w1, w2⟩ := set_spec z1 (show 16 ≤ m by omega) h2' h3 h0 h7
    have cW := covered_iff z1 (show 16 ≤ m by omega) h2' h3
    have hWY : covered z (4096 * (m : Int)) (4096 * (j : Int)) = covered x (4096 * (i : Int)) (4096 * (j : Int)) := by
      rw [Bool.eq_iff_iff, cW, cY]
      constructor
      · intro hh q q1 q2
        rcases Nat.lt_or_ge q m with h | h
        · exact cZ.1 hcZ q q1 h
        · have := hh q h q2
          rwa [z2, if_neg (by omega)] at this
      · intro hh q q1 q2
        rw [z2, if_neg (by omega)]; exact hh q (by omega) q2
    rw [hWY] at eW
    cases hcY : covered x (4096 * (i : Int)) (4096 * (j : Int)) with
    | false =>
      rw [hcY] at eY eW
      refine .inr (.inl ⟨?_, .inr ?_⟩)
      · rw [eY]; simp [ansE]
      · rw [eW]; simp [ansE]
    | true =>
      rw [hcY, if_pos rfl] at eY eW
      by_cases hw24 : (setS z (4096 * (m : Int)) (4096 * (j : Int)) p).length ≤ 24
      case neg => exact .inl (.inr (.inr (by rw [eW]; exact kept_nine hw24)))
      by_cases hy24 : (setS x (4096 * (i : Int)) (4096 * (j : Int)) p).length ≤ 24
      case neg => exact .inl (.inl (by rw [eY]; exact kept_nine hy24))
      rw [kept_val hw24] at eW
      rw [kept_val hy24] at eY
      refine .inr (.inr ⟨by rw [eY]; rfl, by rw [eZ]; rfl, by rw [eW]; rfl, ?_⟩)
      rw [eY, eW]
      refine right_ext y1 w1 fun q => ?_
      rw [y2, w2, z2]
      by_cases c1 : i ≤ q ∧ q < j
      · rw [if_pos c1]
        by_cases c2 : m ≤ q
        · rw [if_pos (by omega), if_neg (by omega)]
        · rw [if_neg (by omega), if_pos (by omega)]
      · rw [if_neg c1, if_neg (by omega), if_neg (by omega)]

theorem find_congr {α : Type} {f g : α → Bool} : ∀ {l : List α}, (∀ a ∈ l, f a = g a) → l.find? f = l.find? g
  | [], _ => rfl
  | a :: l, h => by
    rw [List.find?_cons, List.find?_cons, h a (by simp), find_congr fun b hb => h b (by simp [hb])]
/-- the area of a page's address -/
theorem find_page {y : List Ar} (hy : right y = true) {q : Nat} {t : At} (h : pgs y q = some t) : ∃ a, findS y (4096 * (q : Int)) = some a ∧ formed a = true ∧ plo a ≤ q ∧ q < phi a ∧ pattr a q = t := by
  have e : findS y (4096 * (q : Int)) = y.find? (inP q) := by
    unfold findS
    rw [if_pos hy]
    refine find_congr fun a ha => ?_
    have fa := right_formed hy a ha
    obtain ⟨a1, a2, a3, a4, a5⟩ := formed_pages fa
    unfold has inP
    rw [fa, Bool.true_and, Bool.eq_iff_iff]
    simp only [Bool.and_eq_true, decide_eq_true_eq]; omega
  unfold pgs at h
  rw [e]
  cases hf : y.find? (inP q) with
  | none => rw [hf] at h; cases h
  | some a =>
    rw [hf] at h
    injection h with h
    have h1 := List.find?_some hf
    have h2 : plo a ≤ q ∧ q < phi a := by simpa [inP] using h1
    exact ⟨a, rfl, right_formed hy a (List.mem_of_find?_eq_some hf), h2.1, h2.2, h⟩
theorem fault_page {y : List Ar} (hy : mayS y = true) {q : Nat} {t : At} (h : pgs y q = some t) {k : Int} (k1 : 1 ≤ k) (k7 : k ≤ 7) :
    faultS y ⟨0, 4096 * (q : Int), 0, 0, 0, k, 0, 0, 0⟩ = if iand t.p k == k then ⟨0, 0, t.p, t.sh, t.b, t.o⟩ else ansE 8 := by
  obtain ⟨hr, _⟩ := may_right hy
  obtain ⟨a, h1, h2, h3, h4, rfl⟩ := find_page hr h
  obtain ⟨a1, a2, a3, a4, a5⟩ := formed_pages h2
  unfold faultS
  rw [hy, h1]
  simp only [Bool.not_true, Bool.false_or]
  rw [if_neg (by simp; omega)]
  have hm : may a k = (iand a.p k == k) := by unfold may; simp [show 1 ≤ k from k1, k7]
  have hh : has a (4096 * (q : Int)) = true := by unfold has; rw [h2]; simp; omega
  have e : atr a (4096 * (q : Int)) = pattr a q := by
    have hz : (4096 * (q : Int)).tmod 4096 = 0 := by rw [tmod_zero]; omega
    unfold atr pattr
    rw [if_pos hh, hz, wr, wrap_id (by omega) (by omega), aoff_eq h2 (by omega) (by omega)]
    simp only [At.mk.injEq, true_and]
    have := ((formed_iff a).1 h2).2.2.2.2.2.2.2.1
    by_cases h0 : a.b = 0
    · rw [if_pos h0, if_neg (by omega)]
    · rw [if_neg h0, if_pos (by omega)]; omega
  rw [hm, e]
  rfl
end Go.Abs
