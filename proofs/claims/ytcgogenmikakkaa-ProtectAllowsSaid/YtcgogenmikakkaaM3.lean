/-
  list.Put, Set, Cut and Covered, by pages; check.Range.
-/
import Derived.Test.YtcgogenmikakkaaM2
namespace Go.Abs
set_option linter.unusedVariables false
set_option linter.unusedSimpArgs false

theorem right_srt {l : List Ar} (h : right l = true) : srt l := ((right_iff l).1 h).1
theorem right_nog {l : List Ar} (h : right l = true) : nog l := ((right_iff l).1 h).2
theorem right_formed {l : List Ar} (h : right l = true) : ∀ a ∈ l, formed a = true := srt_formed (right_srt h)
theorem right_ext {l m : List Ar} (hl : right l = true) (hm : right m = true) (h : ∀ p, pgs l p = pgs m p) : l = m := ext_pgs (right_srt hl) (right_nog hl) (right_srt hm) (right_nog hm) h
theorem pgs_range {l : List Ar} (h : srt l) {p : Nat} {t : At} (hp : pgs l p = some t) : 16 ≤ p ∧ p < 512 := by
  obtain ⟨a, ha, h1, h2, _⟩ := pgs_some hp
  have := formed_pages (srt_formed h a ha)
  omega

theorem put_spec {l : List Ar} (h : right l = true) {a : Ar} (ha : formed a = true) : right (putS l a) = true ∧ ∀ q, pgs (putS l a) q = if plo a ≤ q ∧ q < phi a then some (pattr a q) else pgs l q := by
  obtain ⟨a1, a2, a3, a4, a5⟩ := formed_pages ha
  have hs := right_srt h
  have hf := right_formed h
  have e : putS l a = joinedS (l.filterMap (clip 16 (plo a)) ++ a :: l.filterMap (clip (phi a) 512)) := by
    unfold putS
    rw [h, ha, a4, a5, ahead_clip hf a1 (by omega) a2, behind_clip hf (by omega) a3 a2]; rfl
  have h1 : srt (l.filterMap (clip 16 (plo a)) ++ a :: l.filterMap (clip (phi a) 512)) := by
    refine srt_of_app (clip_srt hs) ⟨ha, fun b hb => (clip_bd hb).1, clip_srt hs⟩ fun x hx y hy => ?_
    have := (clip_bd hx).2
    rcases List.mem_cons.1 hy with ey | hy
    · rw [ey]; exact this
    · have := (clip_bd hy).1; omega
  obtain ⟨r1, r2, r3⟩ := joined_spec h1
  rw [e]
  refine ⟨(right_iff _).2 ⟨r1, r2⟩, fun q => ?_⟩
  rw [r3, pgs_app, pgs_cons, clip_pgs hs, clip_pgs hs]
  by_cases c1 : plo a ≤ q ∧ q < phi a
  · rw [if_pos c1, if_pos c1, if_neg (by omega)]; rfl
  · rw [if_neg c1, if_neg c1]
    cases hq : pgs l q with
    | none => simp
    | some t =>
      have := pgs_range hs hq
      by_cases c2 : q < plo a
      · rw [if_pos (by omega)]; rfl
      · rw [if_neg (by omega), if_pos (by omega)]; rfl

def setA (p : Int) (t : At) : At := { t with p := p }
theorem map_srt {l : List Ar} {p : Int} (h0 : 0 ≤ p) (h7 : p ≤ 7) (h : srt l) : srt (l.map fun a => { a with p := p }) := by
  induction l with
  | nil => trivial
  | cons a l ih =>
    refine ⟨?_, fun b hb => ?_, ih h.2.2⟩
    · obtain ⟨f1, f2, f3, f4, f5, f6, f7, f8⟩ := (formed_iff a).1 h.1
      exact (formed_iff _).2 ⟨f1, f2, f3, f4, f5, h0, h7, f8⟩
    · obtain ⟨c, hc, rfl⟩ := List.mem_map.1 hb
      exact h.2.1 c hc
theorem map_pgs (p : Int) : ∀ (l : List Ar) (q : Nat), pgs (l.map fun a => { a with p := p }) q = (pgs l q).map (setA p)
  | [], q => rfl
  | a :: l, q => by
    rw [List.map_cons, pgs_cons, pgs_cons, map_pgs p l q]
    have e1 : plo { a with p := p } = plo a := rfl
    have e2 : phi { a with p := p } = phi a := rfl
    rw [e1, e2]
    by_cases hc : plo a ≤ q ∧ q < phi a
    · rw [if_pos hc, if_pos hc]; rfl
    · rw [if_neg hc, if_neg hc]
theorem set_spec {l : List Ar} (h : right l = true) {i j : Nat} (h1 : 16 ≤ i) (h2 : i < j) (h3 : j ≤ 512) {p : Int} (h0 : 0 ≤ p) (h7 : p ≤ 7) :
    right (setS l (4096 * (i : Int)) (4096 * (j : Int)) p) = true ∧ ∀ q, pgs (setS l (4096 * (i : Int)) (4096 * (j : Int)) p) q = if i ≤ q ∧ q < j then (pgs l q).map (setA p) else pgs l q := by
  have hs := right_srt h
  have hf := right_formed h
  have e : setS l (4096 * (i : Int)) (4096 * (j : Int)) p = joinedS (l.filterMap (clip 16 i) ++ ((l.filterMap (clip i j)).map (fun a => { a with p := p }) ++ l.filterMap (clip j 512))) := by
    unfold setS
    rw [if_pos (by simp [h, h0, h7]), ahead_clip hf h1 (by omega) h2, behind_clip hf (by omega) h3 h2, if_pos (by omega), within_clip hf h3]
  have hb : ∀ b ∈ (l.filterMap (clip i j)).map (fun a => { a with p := p }), i ≤ plo b ∧ phi b ≤ j := by
    intro b hb
    obtain ⟨c, hc, rfl⟩ := List.mem_map.1 hb
    have := clip_bd hc
    exact this
  have hs1 : srt (l.filterMap (clip 16 i) ++ ((l.filterMap (clip i j)).map (fun a => { a with p := p }) ++ l.filterMap (clip j 512))) := by
    refine srt_of_app (clip_srt hs) (srt_of_app (map_srt h0 h7 (clip_srt hs)) (clip_srt hs) fun x hx y hy => ?_) fun x hx y hy => ?_
    · have := (hb x hx).2; have := (clip_bd hy).1; omega
    · have := (clip_bd hx).2
      rcases List.mem_append.1 hy with hy | hy
      · have := (hb y hy).1; omega
      · have := (clip_bd hy).1; omega
  obtain ⟨r1, r2, r3⟩ := joined_spec hs1
  rw [e]
  refine ⟨(right_iff _).2 ⟨r1, r2⟩, fun q => ?_⟩
  rw [r3, pgs_app, pgs_app, map_pgs, clip_pgs hs, clip_pgs hs, clip_pgs hs]
  by_cases c1 : i ≤ q ∧ q < j
  · rw [if_pos c1, if_pos c1, if_neg (by omega), if_neg (by omega)]
    cases pgs l q <;> rfl
  · rw [if_neg c1, if_neg c1]
    cases hq : pgs l q with
    | none => simp
    | some t =>
      have := pgs_range hs hq
      by_cases c2 : q < i
      · rw [if_pos (by omega)]; rfl
      · rw [if_neg (by omega), if_pos (by omega)]; rfl
theorem cut_spec {l : List Ar} (h : right l = true) {i j : Nat} (h1 : 16 ≤ i) (h2 : i < j) (h3 : j ≤ 512) :
    right (cutS l (4096 * (i : Int)) (4096 * (j : Int))) = true ∧ ∀ q, pgs (cutS l (4096 * (i : Int)) (4096 * (j : Int))) q = if i ≤ q ∧ q < j then none else pgs l q := by
  have hs := right_srt h
  have hf := right_formed h
  have hn := right_nog h
  have e : cutS l (4096 * (i : Int)) (4096 * (j : Int)) = l.filterMap (clip 16 i) ++ l.filterMap (clip j 512) := by
    unfold cutS
    rw [if_pos h, ahead_clip hf h1 (by omega) h2, behind_clip hf (by omega) h3 h2]
  have hs1 : srt (l.filterMap (clip 16 i) ++ l.filterMap (clip j 512)) := srt_of_app (clip_srt hs) (clip_srt hs) fun x hx y hy => by
    have := (clip_bd hx).2; have := (clip_bd hy).1; omega
  rw [e]
  refine ⟨(right_iff _).2 ⟨hs1, fun x hx y hy => ?_⟩, fun q => ?_⟩
  · have fx := srt_formed hs1 x hx
    have fy := srt_formed hs1 y hy
    have px := formed_pages fx
    have py := formed_pages fy
    rcases List.mem_append.1 hx with hx | hx <;> rcases List.mem_append.1 hy with hy | hy
    · exact clip_nog hs hn x hx y hy
    · cases hg : goes x y with
      | false => rfl
      | true => have := ((goes_iff fx fy).1 hg).1; have := (clip_bd hx).2; have := (clip_bd hy).1; omega
    · cases hg : goes x y with
      | false => rfl
      | true => have := ((goes_iff fx fy).1 hg).1; have := (clip_bd hx).1; have := (clip_bd hy).2; omega
    · exact clip_nog hs hn x hx y hy
  · rw [pgs_app, clip_pgs hs, clip_pgs hs]
    by_cases c1 : i ≤ q ∧ q < j
    · rw [if_pos c1, if_neg (by omega), if_neg (by omega)]; rfl
    · rw [if_neg c1]
      cases hq : pgs l q with
      | none => simp
      | some t =>
        have := pgs_range hs hq
        by_cases c2 : q < i
        · rw [if_pos (by omega)]; rfl
        · rw [if_neg (by omega), if_pos (by omega)]; rfl

theorem cov_iff (j : Nat) : ∀ (W : List Ar) (x : Nat), srt W → (∀ b ∈ W, x ≤ plo b ∧ phi b ≤ j) → x ≤ j → (covEnd (covFrom (4096 * (x : Int)) W) (4096 * (j : Int)) = true ↔ ∀ q, x ≤ q → q < j → pgs W q ≠ none)
  | [], x, _, _, hx => by
    simp only [covFrom, covEnd, decide_eq_true_eq]
    constructor
    · intro h q h1 h2; omega
    · intro h
      rcases Nat.lt_or_ge x j with h1 | h1
      · exact absurd rfl (h x (Nat.le_refl _) h1)
      · omega
  | b :: W, x, hs, hb, hx => by
    obtain ⟨b1, b2, b3, b4, b5⟩ := formed_pages hs.1
    have hbb := hb b (List.mem_cons_self ..)
    rw [covFrom]
    by_cases h0 : b.s = 4096 * (x : Int)
    · rw [if_pos h0, b5, cov_iff j W (phi b) hs.2.2 (fun c hc => ⟨hs.2.1 c hc, (hb c (List.mem_cons_of_mem _ hc)).2⟩) hbb.2]
      constructor
      · intro h q h1 h2
        rw [pgs_cons]
        by_cases hc : plo b ≤ q ∧ q < phi b
        · rw [if_pos hc]; simp
        · rw [if_neg hc]; exact h q (by omega) h2
      · intro h q h1 h2
        have := h q (by omega) h2
        rwa [pgs_cons, if_neg (by omega)] at this
    · rw [if_neg h0]
      constructor
      · intro h; cases h
      · intro h
        refine absurd (pgs_none fun c hc => ?_) (h x (Nat.le_refl _) (by omega))
        rcases List.mem_cons.1 hc with e | hc
        · rw [e]; omega
        · have := hs.2.1 c hc; omega
theorem covered_iff {l : List Ar} (h : right l = true) {i j : Nat} (h1 : 16 ≤ i) (h2 : i < j) (h3 : j ≤ 512) : covered l (4096 * (i : Int)) (4096 * (j : Int)) = true ↔ ∀ q, i ≤ q → q < j → pgs l q ≠ none := by
  have hs := right_srt h
  unfold covered
  rw [within_clip (right_formed h) h3, afloor_al (by omega) (by omega) (by omega)]
  have e : (right l && decide (4096 * (i : Int) < 4096 * (j : Int)) && decide (65536 ≤ 4096 * (i : Int)) && decide (4096 * (j : Int) ≤ 2097152)) = true := by
    simp only [h, Bool.true_and, Bool.and_eq_true, decide_eq_true_eq]; omega
  rw [e, Bool.true_and, cov_iff j _ i (clip_srt hs) (fun b hb => clip_bd hb) (by omega)]
  constructor
  · intro hh q q1 q2
    have := hh q q1 q2
    rwa [clip_pgs hs, if_pos ⟨q1, q2⟩] at this
  · intro hh q q1 q2
    rw [clip_pgs hs, if_pos ⟨q1, q2⟩]; exact hh q q1 q2

/-! ### Ranges -/
theorem sizeS_ok {n : Int} (h : (sizeS n).2 = 0) : 0 < n ∧ n ≤ 2031616 ∧ (sizeS n).1 = (n + 4095) / 4096 * 4096 := by
  unfold sizeS at h ⊢
  split at h
  · simp at h
  · split at h
    · simp at h
    · rename_i h1 h2
      rw [if_neg h1, if_neg h2]; exact ⟨by omega, by omega, rfl⟩
theorem sizeS_mul {k : Nat} (h0 : 0 < k) (h1 : k ≤ 496) : sizeS (4096 * (k : Int)) = (4096 * (k : Int), 0) := by
  unfold sizeS
  rw [if_neg (by omega), if_neg (by omega)]
  simp only [Prod.mk.injEq, and_true]; omega
theorem rangeS_ok {a n : Int} (h : (rangeS a n).2.2 = 0) : ∃ i j : Nat, 16 ≤ i ∧ i < j ∧ j ≤ 512 ∧ a = 4096 * (i : Int) ∧ (j : Int) = i + (n + 4095) / 4096 ∧ 0 < n ∧ n ≤ 2031616 ∧ rangeS a n = (4096 * (i : Int), 4096 * (j : Int), 0) := by
  unfold rangeS at h ⊢
  split at h
  · simp at h
  · rename_i h1
    split at h
    · rename_i h2; exact absurd h h2
    · rename_i h2
      split at h
      · simp at h
      · rename_i h3
        obtain ⟨s1, s2, s3⟩ := sizeS_ok (by simpa using h2)
        rw [if_neg h1, if_neg h2, if_neg h3, s3]
        rw [s3] at h3
        refine ⟨(a / 4096).toNat, (a / 4096 + (n + 4095) / 4096).toNat, by omega, by omega, by omega, by omega, by omega, s1, s2, ?_⟩
        simp only [Prod.mk.injEq, and_true]
        omega
theorem rangeS_al {i j : Nat} (h1 : 16 ≤ i) (h2 : i < j) (h3 : j ≤ 512) : rangeS (4096 * (i : Int)) (4096 * ((j - i : Nat) : Int)) = (4096 * (i : Int), 4096 * (j : Int), 0) := by
  unfold rangeS
  rw [sizeS_mul (by omega) (by omega), if_neg (by omega)]
  simp only
  rw [if_neg (by simp), if_neg (by omega)]
  simp only [Prod.mk.injEq, and_true, true_and]
  omega
end Go.Abs
