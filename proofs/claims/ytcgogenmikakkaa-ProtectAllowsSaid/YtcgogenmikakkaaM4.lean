/-
  The right list of pages; lists that may come.
-/
import Derived.Test.YtcgogenmikakkaaM3
namespace Go.Abs
set_option linter.unusedVariables false
set_option linter.unusedSimpArgs false

/-- what a page may have -/
def gat (t : At) : Prop := 0 ≤ t.p ∧ t.p ≤ 7 ∧ 0 ≤ t.b ∧ t.b ≤ 9 ∧ (t.b = 0 → t.o = 0) ∧ t.o % 4096 = 0 ∧ 0 ≤ t.o ∧ t.o ≤ 1099511623680
def gps (s : List Pg) : Prop := ∀ p, 16 ≤ p → p < 512 → (pgD s p).i = true → gat (pgD s p).at
theorem gat_pattr {a : Ar} (ha : formed a = true) {p : Nat} (h1 : plo a ≤ p) (h2 : p < phi a) : gat (pattr a p) := by
  obtain ⟨a1, a2, a3, a4, a5⟩ := formed_pages ha
  obtain ⟨f1, f2, f3, f4, f5, f6, f7, f8, f9, f10, f11, f12, f13⟩ := (formed_iff a).1 ha
  unfold gat pattr
  simp only
  by_cases h0 : a.b > 0
  · rw [if_pos h0]; exact ⟨f6, f7, f8, f9, fun h => by omega, by omega, by omega, by omega⟩
  · rw [if_neg h0]; exact ⟨f6, f7, f8, f9, fun _ => rfl, rfl, Int.le_refl _, by omega⟩
theorem gat_new {x : Pg} {p : Nat} (h1 : 16 ≤ p) (h2 : p < 512) (hg : gat x.at) : formed (newAr x p) = true ∧ plo (newAr x p) = p ∧ phi (newAr x p) = p + 1 ∧ pattr (newAr x p) p = x.at := by
  obtain ⟨g1, g2, g3, g4, g5, g6, g7, g8⟩ := hg
  simp only [Pg.at] at g1 g2 g3 g4 g5 g6 g7 g8
  refine ⟨(formed_iff _).2 ?_, ?_, ?_, ?_⟩
  · unfold newAr; simp only; exact ⟨by omega, by omega, by omega, by omega, by omega, g1, g2, g3, g4, g5, g6, g7, by omega⟩
  · unfold plo newAr; simp only; omega
  · unfold phi newAr; simp only; omega
  · unfold pattr newAr Pg.at
    simp only [At.mk.injEq, true_and]
    split
    · omega
    · rename_i h; exact (g5 (by omega)).symm
theorem after_iff {a b : At} (ha : gat a) : afterS a b = true ↔ a.p = b.p ∧ a.sh = b.sh ∧ a.b = b.b ∧ b.o = (if a.b > 0 then a.o + 4096 else a.o) := by
  obtain ⟨g1, g2, g3, g4, g5, g6, g7, g8⟩ := ha
  have hw : wr (a.o + 4096) = a.o + 4096 := wrap_id (by omega) (by omega)
  unfold afterS
  rw [decide_eq_true_eq, hw]
  by_cases h0 : a.b > 0
  · rw [if_pos h0, if_pos h0]
    cases a; cases b
    simp only [At.mk.injEq]
    exact ⟨fun ⟨h1, h2, h3, h4⟩ => ⟨h1, h2, h3, h4.symm⟩, fun ⟨h1, h2, h3, h4⟩ => ⟨h1, h2, h3, h4.symm⟩⟩
  · rw [if_neg h0, if_neg h0]
    cases a; cases b
    simp only [At.mk.injEq]
    exact ⟨fun ⟨h1, h2, h3, h4⟩ => ⟨h1, h2, h3, h4.symm⟩, fun ⟨h1, h2, h3, h4⟩ => ⟨h1, h2, h3, h4.symm⟩⟩

/-- the list of the pages up to one -/
structure Lst (s : List Pg) (k : Nat) (out : List Ar) : Prop where
  srt : srt out
  nog : nog out
  le : ∀ a ∈ out, phi a ≤ k
  pg : ∀ q, pgs out q = if 16 ≤ q ∧ q < k ∧ (pgD s q).i = true then some (pgD s q).at else none
theorem lst_step {s : List Pg} (hg : gps s) {k : Nat} (h1 : 16 ≤ k) (h2 : k < 512) {out : List Ar} (h : Lst s k out) : Lst s (k + 1) (listStep s out k) := by
  unfold listStep
  by_cases hi : (pgD s k).i = true
  case neg =>
    rw [if_neg hi]
    refine ⟨h.srt, h.nog, fun a ha => by have := h.le a ha; omega, fun q => ?_⟩
    rw [h.pg]
    by_cases e : q = k
    · subst e; rw [if_neg (by omega), if_neg (fun hh => hi hh.2.2)]
    · by_cases hc : 16 ≤ q ∧ q < k ∧ (pgD s q).i = true
      · rw [if_pos hc, if_pos ⟨hc.1, by omega, hc.2.2⟩]
      · rw [if_neg hc, if_neg (fun hh => hc ⟨hh.1, by omega, hh.2.2⟩)]
  rw [if_pos hi]
  obtain ⟨n1, n2, n3, n4⟩ := gat_new h1 h2 (hg k h1 h2 hi)
  have hk := hg k h1 h2 hi
  -- one more area, that nothing goes on in
  have more : (∀ x ∈ out, goes x (newAr (pgD s k) k) = false) → Lst s (k + 1) (out ++ [newAr (pgD s k) k]) := by
    intro hno
    have hs : Go.Abs.srt (out ++ [newAr (pgD s k) k]) := srt_of_app h.srt ⟨n1, fun b hb => by simp at hb, trivial⟩ fun x hx y hy => by
      simp only [List.mem_cons, List.not_mem_nil, or_false] at hy
      rw [hy, n2]; exact h.le x hx
    refine ⟨hs, fun x hx y hy => ?_, fun a ha => ?_, fun q => ?_⟩
    · rcases List.mem_append.1 hx with hx | hx <;> rcases List.mem_append.1 hy with hy | hy
      · exact h.nog x hx y hy
      · simp only [List.mem_cons, List.not_mem_nil, or_false] at hy
        rw [hy]; exact hno x hx
      · simp only [List.mem_cons, List.not_mem_nil, or_false] at hx
        have fy := srt_formed h.srt y hy
        cases hgo : goes x y with
        | false => rfl
        | true =>
          rw [hx] at hgo
          have := ((goes_iff n1 fy).1 hgo).1
          have := h.le y hy
          have := formed_pages fy
          omega
      · simp only [List.mem_cons, List.not_mem_nil, or_false] at hx hy
        rw [hx, hy]
        cases hgo : goes (newAr (pgD s k) k) (newAr (pgD s k) k) with
        | false => rfl
        | true => have := ((goes_iff n1 n1).1 hgo).1; omega
    · rcases List.mem_append.1 ha with ha | ha
      · have := h.le a ha; omega
      · simp only [List.mem_cons, List.not_mem_nil, or_false] at ha
        rw [ha, n3]; exact Nat.le_refl _
    · rw [pgs_app, h.pg, pgs_cons, n2, n3, pgs_nil]
      by_cases e : q = k
      · subst e
        rw [if_neg (by omega), if_pos (by omega), if_pos ⟨h1, by omega, hi⟩, n4]; rfl
      · by_cases hc : 16 ≤ q ∧ q < k ∧ (pgD s q).i = true
        · rw [if_pos hc, if_neg (by omega), if_pos ⟨hc.1, by omega, hc.2.2⟩]; rfl
        · rw [if_neg hc, if_neg (by omega), if_neg (fun hh => hc ⟨hh.1, by omega, hh.2.2⟩)]; rfl
  rcases List.eq_nil_or_concat out with rfl | ⟨init, z, rfl⟩
  · exact more fun x hx => by simp at hx
  · rw [List.concat_eq_append] at h more ⊢
    have fz : formed z = true := srt_formed h.srt z (by simp)
    have hz := formed_pages fz
    have hlz := h.le z (by simp)
    have hiz := srt_app_le h.srt
    have e1 : (init ++ [z]).getLast? = some z := by simp
    have e2 : (init ++ [z]).dropLast = init := by simp
    simp only [e1, e2]
    by_cases hze : phi z = k
    · have hpk : pgs (init ++ [z]) (k - 1) = some (pattr z (k - 1)) := pgs_mem h.srt (by simp) (by omega) (by omega)
      have hpk' := h.pg (k - 1)
      rw [hpk] at hpk'
      have hat : pattr z (k - 1) = (pgD s (k - 1)).at := by
        split at hpk'
        · injection hpk'
        · cases hpk'
      have hb : (z.e == 4096 * (k : Int)) = true := by simp only [beq_iff_eq]; omega
      rw [hb, Bool.true_and]
      have gz := gat_pattr fz (p := k - 1) (by omega) (by omega)
      by_cases haf : afterS (pgD s (k - 1)).at (pgD s k).at = true
      · rw [if_pos haf]
        rw [← hat] at haf
        obtain ⟨t1, t2, t3, t4⟩ := (after_iff gz).1 haf
        have hgo : goes z (newAr (pgD s k) k) = true := by
          refine (goes_iff fz n1).2 ⟨by rw [n2]; exact hze, t1, t2, t3, fun h0 => ?_⟩
          have hb0 : z.b > 0 := by have := ((formed_iff z).1 fz).2.2.2.2.2.2.2.1; omega
          simp only [pattr, hb0, if_true, Pg.at] at t4
          show (pgD s k).o = _
          omega
        obtain ⟨j1, j2, j3, j4, j5⟩ := joined_one fz n1 hgo
        have ej : ({ z with e := (newAr (pgD s k) k).e } : Ar) = { z with e := 4096 * ((k + 1 : Nat) : Int) } := rfl
        rw [ej] at j1 j2 j3 j4
        have hs : Go.Abs.srt (init ++ [{ z with e := 4096 * ((k + 1 : Nat) : Int) }]) := srt_of_app (srt_app_left h.srt) ⟨j1, fun b hb => by simp at hb, trivial⟩ fun x hx y hy => by
          simp only [List.mem_cons, List.not_mem_nil, or_false] at hy
          rw [hy, j2]; exact hiz x hx z (by simp)
        refine ⟨hs, fun x hx y hy => ?_, fun a ha => ?_, fun q => ?_⟩
        · have fx := srt_formed hs x hx
          have fy := srt_formed hs y hy
          cases hgx : goes x y with
          | false => rfl
          | true =>
            exfalso
            obtain ⟨k1, k2, k3, k4, k5⟩ := (goes_iff fx fy).1 hgx
            have py := formed_pages fy
            rcases List.mem_append.1 hx with hx | hx <;> rcases List.mem_append.1 hy with hy | hy
            · rw [h.nog x (by simp [hx]) y (by simp [hy])] at hgx; cases hgx
            · simp only [List.mem_cons, List.not_mem_nil, or_false] at hy
              subst hy
              have : goes x z = true := (goes_iff fx fz).2 ⟨k1, k2, k3, k4, k5⟩
              rw [h.nog x (by simp [hx]) z (by simp)] at this; cases this
            · simp only [List.mem_cons, List.not_mem_nil, or_false] at hx
              have := hiz y hy z (by simp)
              rw [hx, j3, n3] at k1; omega
            · simp only [List.mem_cons, List.not_mem_nil, or_false] at hx hy
              rw [hx, hy, j3, j2, n3] at k1; omega
        · rcases List.mem_append.1 ha with ha | ha
          · have := h.le a (by simp [ha]); omega
          · simp only [List.mem_cons, List.not_mem_nil, or_false] at ha
            rw [ha, j3, n3]; exact Nat.le_refl _
        · have hold := h.pg q
          rw [pgs_app, pgs_cons, pgs_nil] at hold
          rw [pgs_app, pgs_cons, pgs_nil, j2, j3, j4, n3]
          by_cases e : q = k
          · subst e
            rw [if_neg (by omega), if_neg (by omega)] at hold
            rw [if_pos (by omega), if_pos ⟨h1, by omega, hi⟩, ← n4, j5]
            cases hq : pgs init q with
            | none => rfl
            | some t => rw [hq] at hold; cases hold
          · by_cases c : plo z ≤ q ∧ q < phi z
            · rw [if_pos c] at hold
              rw [if_pos (by omega), hold]
              by_cases hc : 16 ≤ q ∧ q < k ∧ (pgD s q).i = true
              · rw [if_pos hc, if_pos ⟨hc.1, by omega, hc.2.2⟩]
              · rw [if_neg hc, if_neg (fun hh => hc ⟨hh.1, by omega, hh.2.2⟩)]
            · rw [if_neg c] at hold
              rw [if_neg (by omega), hold]
              by_cases hc : 16 ≤ q ∧ q < k ∧ (pgD s q).i = true
              · rw [if_pos hc, if_pos ⟨hc.1, by omega, hc.2.2⟩]
              · rw [if_neg hc, if_neg (fun hh => hc ⟨hh.1, by omega, hh.2.2⟩)]
      · rw [if_neg haf]
        refine more fun x hx => ?_
        have fx := srt_formed h.srt x hx
        cases hgx : goes x (newAr (pgD s k) k) with
        | false => rfl
        | true =>
          exfalso
          obtain ⟨k1, k2, k3, k4, k5⟩ := (goes_iff fx n1).1 hgx
          rcases List.mem_append.1 hx with hx | hx
          · have := hiz x hx z (by simp)
            rw [n2] at k1; omega
          · simp only [List.mem_cons, List.not_mem_nil, or_false] at hx
            subst hx
            apply haf
            rw [← hat, after_iff gz]
            refine ⟨k2, k3, k4, ?_⟩
            show (pgD s k).o = _
            unfold pattr
            simp only
            by_cases h0 : x.b > 0
            · have k5 : (pgD s k).o = _ := k5 (by omega)
              rw [if_pos h0, if_pos h0, k5]; omega
            · rw [if_neg h0, if_neg h0]
              have k4 : x.b = (pgD s k).b := k4
              exact hk.2.2.2.2.1 (show (pgD s k).b = 0 by have := ((formed_iff x).1 fz).2.2.2.2.2.2.2.1; omega)
    · have hb : (z.e == 4096 * (k : Int)) = false := by
        cases hh : z.e == 4096 * (k : Int) with
        | false => rfl
        | true => simp only [beq_iff_eq] at hh; omega
      rw [hb, Bool.false_and, if_neg (by simp)]
      refine more fun x hx => ?_
      have fx := srt_formed h.srt x hx
      cases hgx : goes x (newAr (pgD s k) k) with
      | false => rfl
      | true =>
        exfalso
        have k1 := ((goes_iff fx n1).1 hgx).1
        rw [n2] at k1
        rcases List.mem_append.1 hx with hx | hx
        · have := hiz x hx z (by simp); omega
        · simp only [List.mem_cons, List.not_mem_nil, or_false] at hx
          rw [hx] at k1; omega
theorem lst_all {s : List Pg} (hg : gps s) : ∀ n, n ≤ 496 → Lst s (16 + n) ((List.range' 16 n).foldl (listStep s) [])
  | 0, _ => ⟨trivial, fun x hx => by simp at hx, fun a ha => by simp at ha, fun q => by rw [if_neg (by omega)]; rfl⟩
  | n + 1, hn => by
    rw [List.range'_1_concat, List.foldl_append]
    have := lst_step (k := 16 + n) hg (by omega) (by omega) (lst_all hg n (by omega))
    exact this
theorem listS_spec {s : List Pg} (hg : gps s) : right (listS s) = true ∧ ∀ q, pgs (listS s) q = if 16 ≤ q ∧ q < 512 ∧ (pgD s q).i = true then some (pgD s q).at else none := by
  have h0 : ∀ n, n = 496 → Lst s (16 + n) ((List.range' 16 n).foldl (listStep s) []) := fun n hn => lst_all hg n (by omega)
  have this : Lst s 512 (listS s) := by
    have := h0 496 rfl
    unfold listS
    rwa [show 16 + 496 = 512 from rfl] at this
  have key : ∀ L, Lst s 512 L → right L = true ∧ ∀ q, pgs L q = if 16 ≤ q ∧ q < 512 ∧ (pgD s q).i = true then some (pgD s q).at else none := fun L h => And.intro ((right_iff L).2 (And.intro h.srt h.nog)) h.pg
  exact key _ this

theorem pgD_updm {s : List Pg} {lo hi p : Nat} {f : Nat → Pg → Pg} (hp : p < s.length) : pgD (upd s lo hi f) p = if lo ≤ p ∧ p < hi then f p (pgD s p) else pgD s p := by
  have h1 : s[p]? = some (pgD s p) := by simp [pgD, hp]
  have h2 := upd_get s lo hi f p
  rw [h1] at h2
  simp only [pgD, List.getD_eq_getElem?_getD, h2]
  simp [pgD]
theorem pgD_pzm (p : Nat) : pgD pz p = Pg.zero := by
  unfold pgD pz
  rw [List.getD_eq_getElem?_getD, List.getElem?_replicate]
  split <;> rfl
theorem gps_pz : gps pz := fun p _ _ h => by rw [pgD_pzm] at h; cases h
theorem gps_ofStep {s : List Pg} (hs : s.length = 512) (hg : gps s) {a : Ar} (ha : formed a = true) : gps (ofStep s a) := fun p h1 h2 hi => by
  unfold ofStep at hi ⊢
  rw [pgD_updm (by omega)] at hi ⊢
  by_cases hc : plo a ≤ p ∧ p < phi a
  · rw [if_pos hc]; exact gat_pattr ha hc.1 hc.2
  · rw [if_neg hc] at hi ⊢; exact hg p h1 h2 hi
theorem gps_made (l : List Ar) : ∀ s : List Pg, s.length = 512 → gps s → gps (l.foldl madeStep s) := by
  induction l with
  | nil => intro s _ h; exact h
  | cons a l ih =>
    intro s hs hg
    rw [List.foldl_cons]
    refine ih _ (by rw [madeStep_len, hs]) ?_
    unfold madeStep
    split
    · rename_i h; exact gps_ofStep hs hg h
    · exact hg
theorem gps_madeP (l : List Ar) : gps (madeP l) := by unfold madeP; exact gps_made (l.take 40) pz pz_len gps_pz
theorem right_made (l : List Ar) : right (madeS l) = true := by unfold madeS; exact (listS_spec (gps_madeP l)).1
theorem right_take {l : List Ar} (h : right l = true) (k : Nat) : right (l.take k) = true := by
  have hs := right_srt h
  have hn := right_nog h
  refine (right_iff _).2 ⟨srt_app_left (m := l.drop k) (by rw [List.take_append_drop]; exact hs), fun x hx y hy => hn x (List.mem_of_mem_take hx) y (List.mem_of_mem_take hy)⟩
theorem right_some (l : List Ar) : right (someS l) = true := right_take (right_made l) 24
theorem some_len (l : List Ar) : (someS l).length ≤ 24 := by unfold someS; simp; omega
theorem may_some (l : List Ar) : mayS (someS l) = true := by
  unfold mayS; rw [right_some]; simp [some_len]
end Go.Abs
