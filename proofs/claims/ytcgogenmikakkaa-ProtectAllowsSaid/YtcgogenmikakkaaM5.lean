/-
  protect.Protect, by pages.
-/
import Derived.Test.YtcgogenmikakkaaM4
namespace Go.Abs
set_option linter.unusedVariables false
set_option linter.unusedSimpArgs false

theorem may_right {l : List Ar} (h : mayS l = true) : right l = true ∧ l.length ≤ 24 := by
  unfold mayS at h
  simp only [Bool.and_eq_true, decide_eq_true_eq] at h
  exact h
theorem may_of {l : List Ar} (h : right l = true) (h1 : l.length ≤ 24) : mayS l = true := by
  unfold mayS; rw [h]; simp [h1]
theorem protect_al {x : List Ar} (hx : mayS x = true) {i j : Nat} (h1 : 16 ≤ i) (h2 : i < j) (h3 : j ≤ 512) {c : Ca} (ha : c.a = 4096 * (i : Int)) (hl : c.l = 4096 * ((j - i : Nat) : Int)) :
    protectS x c = if c.p < 0 ∨ c.p > 7 then (x, ansE 1) else if covered x (4096 * (i : Int)) (4096 * (j : Int)) then keptS x (setS x (4096 * (i : Int)) (4096 * (j : Int)) c.p) 0 else (x, ansE 7) := by
  have hr : rangeS c.a c.l = (4096 * (i : Int), 4096 * (j : Int), 0) := by rw [ha, hl]; exact rangeS_al h1 h2 h3
  have hw : pwrongS x c = if c.p < 0 ∨ c.p > 7 then (4096 * (i : Int), 4096 * (j : Int), 1) else if covered x (4096 * (i : Int)) (4096 * (j : Int)) then (4096 * (i : Int), 4096 * (j : Int), 0) else (4096 * (i : Int), 4096 * (j : Int), 7) := by
    unfold pwrongS
    rw [hx, hr]
    simp only [Bool.not_true, Bool.false_eq_true, if_false, ne_eq, not_true_eq_false, protS]
    by_cases hp : c.p < 0 ∨ c.p > 7
    · simp [hp]
    · cases hc : covered x (4096 * (i : Int)) (4096 * (j : Int)) <;> simp [hp, hc]
  unfold protectS
  rw [hw]
  by_cases hp : c.p < 0 ∨ c.p > 7
  · simp [hp]
  · cases hc : covered x (4096 * (i : Int)) (4096 * (j : Int)) <;> simp [hp, hc]
theorem kept_err {was now : List Ar} {v : Int} : (keptS was now v).2.s = if now.length > 24 then 9 else 0 := by
  unfold keptS; split <;> rfl
/-- what was protected without an error -/
theorem protect_ok {x : List Ar} {c : Ca} (h : (protectS x c).2.s = 0) : mayS x = true ∧ ∃ i j : Nat, 16 ≤ i ∧ i < j ∧ j ≤ 512 ∧ c.a = 4096 * (i : Int) ∧ (j : Int) = i + (c.l + 4095) / 4096 ∧ 0 < c.l ∧ c.l ≤ 2031616 ∧ 0 ≤ c.p ∧ c.p ≤ 7 ∧
    covered x (4096 * (i : Int)) (4096 * (j : Int)) = true ∧ (setS x (4096 * (i : Int)) (4096 * (j : Int)) c.p).length ≤ 24 ∧ protectS x c = (setS x (4096 * (i : Int)) (4096 * (j : Int)) c.p, ansV 0) := by
  unfold protectS at h ⊢
  by_cases hw : (pwrongS x c).2.2 = 0
  · rw [if_neg (by simpa using hw)] at h ⊢
    have hm : mayS x = true := by
      cases hm : mayS x with
      | true => rfl
      | false => unfold pwrongS at hw; rw [hm] at hw; simp at hw
    have hr : (rangeS c.a c.l).2.2 = 0 := by
      by_cases hr : (rangeS c.a c.l).2.2 = 0
      · exact hr
      · exfalso
        unfold pwrongS at hw
        simp only [hm, Bool.not_true, Bool.false_eq_true, if_false, ne_eq, hr, not_false_eq_true, if_true] at hw
    obtain ⟨i, j, h1, h2, h3, h4, h5, h6, h7, h8⟩ := rangeS_ok hr
    have hp : protS c.p = 0 := by
      by_cases hp : protS c.p = 0
      · exact hp
      · exfalso
        unfold pwrongS at hw
        simp only [hm, Bool.not_true, Bool.false_eq_true, if_false, ne_eq, hr, not_true_eq_false, hp, not_false_eq_true, if_true] at hw
    have hp2 : 0 ≤ c.p ∧ c.p ≤ 7 := by unfold protS at hp; split at hp <;> omega
    have hc : covered x (4096 * (i : Int)) (4096 * (j : Int)) = true := by
      cases hc : covered x (4096 * (i : Int)) (4096 * (j : Int)) with
      | true => rfl
      | false =>
        exfalso
        unfold pwrongS at hw
        simp only [hm, h8, Bool.not_true, Bool.false_eq_true, if_false, ne_eq, not_true_eq_false, hp, hc, Bool.not_false, if_true] at hw
        simp at hw
    have hpw : pwrongS x c = (4096 * (i : Int), 4096 * (j : Int), 0) := by
      unfold pwrongS
      simp only [hm, h8, Bool.not_true, Bool.false_eq_true, if_false, ne_eq, not_true_eq_false, hp, hc]
    rw [hpw] at h ⊢
    simp only at h ⊢
    rw [kept_err] at h
    have hlen : (setS x (4096 * (i : Int)) (4096 * (j : Int)) c.p).length ≤ 24 := by
      split at h
      · cases h
      · omega
    refine ⟨hm, i, j, h1, h2, h3, h4, h5, h6, h7, hp2.1, hp2.2, hc, hlen, ?_⟩
    unfold keptS; rw [if_neg (by omega)]
  · rw [if_pos (by simpa using hw)] at h
    exact absurd h hw
theorem protect_no {x : List Ar} {c : Ca} (h : (protectS x c).2.s ≠ 0) : (protectS x c).1 = x := by
  unfold protectS at h ⊢
  split
  · rfl
  · rename_i hw
    rw [if_neg hw] at h
    rw [kept_err] at h
    unfold keptS
    split
    · rfl
    · rename_i hl; rw [if_neg hl] at h; exact absurd rfl h

/-! ### Setting a whole area -/
theorem set_whole_len {x : List Ar} (hx : right x = true) {a : Ar} (ha : a ∈ x) {p : Int} (h0 : 0 ≤ p) (h7 : p ≤ 7) : (setS x (4096 * (plo a : Int)) (4096 * (phi a : Int)) p).length ≤ x.length := by
  have hf := right_formed hx
  have hs := right_srt hx
  obtain ⟨a1, a2, a3, a4, a5⟩ := formed_pages (hf a ha)
  have e : setS x (4096 * (plo a : Int)) (4096 * (phi a : Int)) p = joinedS (x.filterMap (clip 16 (plo a)) ++ ((x.filterMap (clip (plo a) (phi a))).map (fun a => { a with p := p }) ++ x.filterMap (clip (phi a) 512))) := by
    unfold setS
    rw [if_pos (by simp [hx, h0, h7]), ahead_clip hf a1 (by omega) a2, behind_clip hf (by omega) a3 a2, if_pos (by omega), within_clip hf a3]
  have hjl : ∀ l : List Ar, (joinedS l).length ≤ l.length := by
    have key : ∀ (l out : List Ar), (l.foldl joinStep out).length ≤ out.length + l.length := by
      intro l
      induction l with
      | nil => intro out; simp
      | cons b l ih =>
        intro out
        have h1 := ih (joinStep out b)
        have h2 : (joinStep out b).length ≤ out.length + 1 := by
          unfold joinStep
          split
          · simp
          · split <;> simp
        simp only [List.foldl_cons, List.length_cons]; omega
    intro l; simpa [joinedS] using key l []
  rw [e]
  refine Nat.le_trans (hjl _) ?_
  simp only [List.length_append, List.length_map]
  have key : ∀ l : List Ar, (∀ b ∈ l, formed b = true ∧ (phi b ≤ plo a ∨ b = a ∨ phi a ≤ plo b)) → (l.filterMap (clip 16 (plo a))).length + ((l.filterMap (clip (plo a) (phi a))).length + (l.filterMap (clip (phi a) 512)).length) ≤ l.length := by
    intro l
    induction l with
    | nil => intro _; simp
    | cons b l ih =>
      intro hb
      have h1 := ih fun c hc => hb c (List.mem_cons_of_mem _ hc)
      obtain ⟨fb, hb⟩ := hb b (List.mem_cons_self ..)
      have pb := formed_pages fb
      simp only [List.filterMap_cons]
      rcases hb with hb | hb | hb
      · have e1 : clip (plo a) (phi a) b = none := by unfold clip; rw [if_neg (by omega)]
        have e2 : clip (phi a) 512 b = none := by unfold clip; rw [if_neg (by omega)]
        rw [e1, e2]
        cases clip 16 (plo a) b <;> simp <;> omega
      · subst hb
        have e1 : clip 16 (plo b) b = none := by unfold clip; rw [if_neg (by omega)]
        have e2 : clip (phi b) 512 b = none := by unfold clip; rw [if_neg (by omega)]
        rw [e1, e2]
        cases clip (plo b) (phi b) b <;> simp <;> omega
      · have e1 : clip (plo a) (phi a) b = none := by unfold clip; rw [if_neg (by omega)]
        have e2 : clip 16 (plo a) b = none := by unfold clip; rw [if_neg (by omega)]
        rw [e1, e2]
        cases clip (phi a) 512 b <;> simp <;> omega
  refine key x fun b hb => ⟨hf b hb, ?_⟩
  have sep : ∀ {l : List Ar}, srt l → ∀ {x y : Ar}, x ∈ l → y ∈ l → phi x ≤ plo y ∨ x = y ∨ phi y ≤ plo x := by
    intro l
    induction l with
    | nil => intro _ x y hx; simp at hx
    | cons c l ih =>
      intro h x y hx hy
      rcases List.mem_cons.1 hx with ex | hx <;> rcases List.mem_cons.1 hy with ey | hy
      · exact .inr (.inl (by rw [ex, ey]))
      · rw [ex]; exact .inl (h.2.1 y hy)
      · rw [ey]; exact .inr (.inr (h.2.1 x hx))
      · exact ih h.2.2 hx hy
  exact sep hs hb ha
theorem covered_area {x : List Ar} (hx : right x = true) {a : Ar} (ha : a ∈ x) : covered x (4096 * (plo a : Int)) (4096 * (phi a : Int)) = true := by
  obtain ⟨a1, a2, a3, a4, a5⟩ := formed_pages (right_formed hx a ha)
  refine (covered_iff hx a1 a2 a3).2 fun q h1 h2 => ?_
  rw [pgs_mem (right_srt hx) ha h1 h2]; simp

/-- protected otherwise, and again as it was -/
theorem back_again {x : List Ar} (hx : mayS x = true) {a : Ar} (ha : a ∈ x) {p : Int} (h0 : 0 ≤ p) (h7 : p ≤ 7) :
    let c : Ca := ⟨0, a.s, a.e - a.s, 0, 0, p, 0, 0, 0⟩; let c' : Ca := ⟨0, a.s, a.e - a.s, 0, 0, a.p, 0, 0, 0⟩
    (protectS x c).2.s = 0 ∧ (protectS (protectS x c).1 c').2.s = 0 ∧ (protectS (protectS x c).1 c').1 = x := by
  intro c c'
  obtain ⟨hr, hl⟩ := may_right hx
  have fa := right_formed hr a ha
  obtain ⟨a1, a2, a3, a4, a5⟩ := formed_pages fa
  have fp := ((formed_iff a).1 fa)
  have hcl : a.e - a.s = 4096 * ((phi a - plo a : Nat) : Int) := by omega
  have e1 : protectS x c = (setS x (4096 * (plo a : Int)) (4096 * (phi a : Int)) p, ansV 0) := by
    rw [protect_al hx a1 a2 a3 (c := c) a4 hcl, if_neg (by show ¬ (p < 0 ∨ p > 7); omega), if_pos (covered_area hr ha)]
    have := set_whole_len hr ha h0 h7
    unfold keptS; rw [if_neg (by show ¬ (setS x _ _ p).length > 24; omega)]
  obtain ⟨r1, r2⟩ := set_spec hr a1 a2 a3 h0 h7
  have hy : mayS (setS x (4096 * (plo a : Int)) (4096 * (phi a : Int)) p) = true := may_of r1 (by have := set_whole_len hr ha h0 h7; omega)
  rw [e1]
  generalize setS x (4096 * (plo a : Int)) (4096 * (phi a : Int)) p = y at r1 r2 hy
  have hcov : covered y (4096 * (plo a : Int)) (4096 * (phi a : Int)) = true := (covered_iff r1 a1 a2 a3).2 fun q q1 q2 => by
    rw [r2, if_pos ⟨q1, q2⟩, pgs_mem (right_srt hr) ha q1 q2]; simp
  obtain ⟨s1, s2⟩ := set_spec r1 a1 a2 a3 (p := a.p) fp.2.2.2.2.2.1 fp.2.2.2.2.2.2.1
  have hback : setS y (4096 * (plo a : Int)) (4096 * (phi a : Int)) a.p = x := right_ext s1 hr fun q => by
    rw [s2, r2]
    by_cases hc : plo a ≤ q ∧ q < phi a
    · rw [if_pos hc, if_pos hc, pgs_mem (right_srt hr) ha hc.1 hc.2]; rfl
    · rw [if_neg hc, if_neg hc]
  have e2 : protectS y c' = (x, ansV 0) := by
    rw [protect_al hy a1 a2 a3 (c := c') a4 hcl, if_neg (by show ¬ (a.p < 0 ∨ a.p > 7); omega), if_pos hcov]
    show keptS y (setS y (4096 * (plo a : Int)) (4096 * (phi a : Int)) a.p) 0 = _
    rw [hback]
    unfold keptS; rw [if_neg (by omega)]
  rw [e2]
  exact ⟨rfl, rfl, rfl⟩
end Go.Abs
