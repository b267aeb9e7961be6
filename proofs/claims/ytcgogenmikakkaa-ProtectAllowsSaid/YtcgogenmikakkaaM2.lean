/-
  Pages of what is cut, put, set and joined.
-/
import Derived.Test.YtcgogenmikakkaaM1
namespace Go.Abs
set_option linter.unusedVariables false
set_option linter.unusedSimpArgs false

theorem fmap_congr {f g : Ar → Option Ar} : ∀ {l : List Ar}, (∀ a ∈ l, f a = g a) → l.filterMap f = l.filterMap g
  | [], _ => rfl
  | a :: l, h => by rw [List.filterMap_cons, List.filterMap_cons, h a (by simp), fmap_congr fun b hb => h b (by simp [hb])]
/-! ### Numbers -/
theorem tmod_nn {n : Int} (h : 0 ≤ n) : n.tmod 4096 = n % 4096 := Int.tmod_eq_emod_of_nonneg h
theorem afloor_al {n : Int} (h0 : 0 ≤ n) (h1 : n ≤ 1099511627776) (h : n % 4096 = 0) : afloor n = n := by
  unfold afloor wr
  rw [tmod_nn h0, wrap_id (n := n % 4096 + 4096) (by omega) (by omega), tmod_nn (by omega), wrap_id (by omega) (by omega)]
  omega
theorem afloor_neg {n : Int} (h0 : 0 ≤ n) (h1 : n ≤ 1099511627776) (h : n % 4096 = 0) : afloor (wr (0 - n)) = 0 - n := by
  unfold afloor wr
  have hd : (4096 : Int) ∣ (0 - n) := by omega
  rw [wrap_id (n := 0 - n) (by omega) (by omega), Int.dvd_iff_tmod_eq_zero.1 hd, wrap_id (n := 0 + 4096) (by omega) (by omega), tmod_nn (by omega), wrap_id (by omega) (by omega)]
  omega
theorem aceil_al {n : Int} (h0 : 0 ≤ n) (h1 : n ≤ 2097152) (h : n % 4096 = 0) : aceil n = n := by
  unfold aceil
  rw [if_neg (by omega), afloor_neg h0 (by omega) h, wr, wrap_id (by omega) (by omega)]
  omega
theorem toOf_al {n : Int} (h0 : 0 ≤ n) (h1 : n ≤ 2097152) (h : n % 4096 = 0) : toOf n = n := by
  unfold toOf
  split
  · rw [afloor_neg h0 (by omega) h, wr, wrap_id (by omega) (by omega)]; omega
  · rfl

/-! ### A part of an area, from a page to a page -/
def cutA (a : Ar) (x y : Nat) : Ar := { a with s := 4096 * (x : Int), e := 4096 * (y : Int), o := if a.b = 0 then 0 else a.o + (4096 * (x : Int) - a.s) }
theorem cutA_plo (a : Ar) (x y : Nat) : plo (cutA a x y) = x := by unfold plo cutA; simp only; omega
theorem cutA_phi (a : Ar) (x y : Nat) : phi (cutA a x y) = y := by unfold phi cutA; simp only; omega
theorem cutA_formed {a : Ar} {x y : Nat} (ha : formed a = true) (h1 : plo a ≤ x) (h2 : x < y) (h3 : y ≤ phi a) : formed (cutA a x y) = true := by
  obtain ⟨a1, a2, a3, a4, a5⟩ := formed_pages ha
  obtain ⟨f1, f2, f3, f4, f5, f6, f7, f8, f9, f10, f11, f12, f13⟩ := (formed_iff a).1 ha
  refine (formed_iff _).2 ?_
  unfold cutA
  simp only
  by_cases h0 : a.b = 0
  · rw [if_pos h0]; exact ⟨by omega, by omega, by omega, by omega, by omega, f6, f7, f8, f9, fun _ => rfl, rfl, Int.le_refl _, by omega⟩
  · rw [if_neg h0]; exact ⟨by omega, by omega, by omega, by omega, by omega, f6, f7, f8, f9, fun h => absurd h h0, by omega, by omega, by omega⟩
theorem cutA_pattr (a : Ar) (x y p : Nat) : pattr (cutA a x y) p = pattr a p := by
  unfold pattr cutA
  simp only [At.mk.injEq, true_and]
  by_cases h0 : a.b > 0
  · rw [if_pos h0, if_pos h0, if_neg (by omega)]; omega
  · rw [if_neg h0, if_neg h0]
theorem cutA_self {a : Ar} (ha : formed a = true) : cutA a (plo a) (phi a) = a := by
  obtain ⟨a1, a2, a3, a4, a5⟩ := formed_pages ha
  have f10 := ((formed_iff a).1 ha).2.2.2.2.2.2.2.2.2.1
  unfold cutA
  cases a
  simp only at *
  simp only [Ar.mk.injEq, true_and]
  refine ⟨by omega, by omega, ?_⟩
  split
  · rename_i h; exact (f10 h).symm
  · omega

theorem aoff_eq {a : Ar} (ha : formed a = true) {n : Int} (h0 : a.s ≤ n) (h1 : n ≤ a.e) : aoff a n = if a.b = 0 then 0 else a.o + (n - a.s) := by
  obtain ⟨f1, f2, f3, f4, f5, f6, f7, f8, f9, f10, f11, f12, f13⟩ := (formed_iff a).1 ha
  unfold aoff wr
  split
  · rfl
  · rw [wrap_id (n := a.o + n) (by omega) (by omega), wrap_id (by omega) (by omega)]; omega
def clip (i j : Nat) (a : Ar) : Option Ar := if max (plo a) i < min (phi a) j then some (cutA a (max (plo a) i) (min (phi a) j)) else none
theorem apart_clip {a : Ar} (ha : formed a = true) {i j : Nat} (hj : j ≤ 512) : apart a (4096 * (i : Int)) (4096 * (j : Int)) = clip i j a := by
  obtain ⟨a1, a2, a3, a4, a5⟩ := formed_pages ha
  unfold apart clip
  by_cases hc : 4096 * (j : Int) ≤ a.s ∨ 4096 * (i : Int) ≥ a.e ∨ 4096 * (i : Int) ≥ 4096 * (j : Int)
  · have e1 : (!formed a || decide (4096 * (j : Int) ≤ a.s) || decide (4096 * (i : Int) ≥ a.e) || decide (4096 * (i : Int) ≥ 4096 * (j : Int))) = true := by
      simp only [Bool.or_eq_true, decide_eq_true_eq]; omega
    rw [if_pos e1, if_neg (by omega)]
  · have e1 : ¬ (!formed a || decide (4096 * (j : Int) ≤ a.s) || decide (4096 * (i : Int) ≥ a.e) || decide (4096 * (i : Int) ≥ 4096 * (j : Int))) = true := by
      simp only [ha, Bool.not_true, Bool.false_or, Bool.or_eq_true, decide_eq_true_eq]; omega
    have e2 : imax (4096 * (i : Int)) 0 = 4096 * (i : Int) := by unfold imax; rw [if_neg (by omega)]
    have e3 : imax a.s (afloor (imax (4096 * (i : Int)) 0)) = 4096 * ((max (plo a) i : Nat) : Int) := by
      rw [e2, afloor_al (by omega) (by omega) (by omega)]
      unfold imax; split <;> omega
    have e4 : imin a.e (aceil (4096 * (j : Int))) = 4096 * ((min (phi a) j : Nat) : Int) := by
      rw [aceil_al (by omega) (by omega) (by omega)]
      unfold imin; split <;> omega
    rw [if_neg e1, e3, e4, if_neg (by omega), if_pos (by omega), aoff_eq ha (by omega) (by omega)]
    rfl
theorem within_clip {l : List Ar} (hl : ∀ a ∈ l, formed a = true) {i j : Nat} (hj : j ≤ 512) : withinS l (4096 * (i : Int)) (4096 * (j : Int)) = l.filterMap (clip i j) := by
  unfold withinS
  exact fmap_congr fun a ha => apart_clip (hl a ha) hj
theorem ahead_clip {l : List Ar} (hl : ∀ a ∈ l, formed a = true) {i j : Nat} (hi : 16 ≤ i) (hi2 : i ≤ 512) (hij : i < j) : aheadS l (4096 * (i : Int)) (4096 * (j : Int)) = l.filterMap (clip 16 i) := by
  unfold aheadS
  rw [if_pos (by omega)]
  refine fmap_congr fun a ha => ?_
  obtain ⟨a1, a2, a3, a4, a5⟩ := formed_pages (hl a ha)
  unfold aheadOf
  rw [afloor_al (by omega) (by omega) (by omega)]
  have e : imax (4096 * (i : Int)) 65536 = 4096 * (i : Int) := by unfold imax; split <;> omega
  have e2 : (65536 : Int) = 4096 * ((16 : Nat) : Int) := rfl
  rw [e]
  split
  · rw [e2]; exact apart_clip (hl a ha) hi2
  · rw [clip, if_neg (by omega)]
theorem behind_clip {l : List Ar} (hl : ∀ a ∈ l, formed a = true) {i j : Nat} (hj : 16 ≤ j) (hj2 : j ≤ 512) (hij : i < j) : behindS l (4096 * (i : Int)) (4096 * (j : Int)) = l.filterMap (clip j 512) := by
  unfold behindS
  rw [if_pos (by omega)]
  refine fmap_congr fun a ha => ?_
  obtain ⟨a1, a2, a3, a4, a5⟩ := formed_pages (hl a ha)
  unfold behindOf
  rw [toOf_al (by omega) (by omega) (by omega)]
  have e : imax (4096 * (j : Int)) 65536 = 4096 * (j : Int) := by unfold imax; split <;> omega
  have e2 : (2097152 : Int) = 4096 * ((512 : Nat) : Int) := rfl
  rw [e]
  split
  · rw [e2]; exact apart_clip (hl a ha) (Nat.le_refl _)
  · rw [clip, if_neg (by omega)]

/-! ### Clipped lists -/
theorem clip_some {a b : Ar} {i j : Nat} (h : clip i j a = some b) : max (plo a) i < min (phi a) j ∧ b = cutA a (max (plo a) i) (min (phi a) j) := by
  unfold clip at h
  split at h
  · rename_i hc; injection h with h; exact ⟨hc, h.symm⟩
  · cases h
theorem clip_mem {l : List Ar} {i j : Nat} {b : Ar} (h : b ∈ l.filterMap (clip i j)) : ∃ a ∈ l, max (plo a) i < min (phi a) j ∧ b = cutA a (max (plo a) i) (min (phi a) j) := by
  obtain ⟨a, ha, hc⟩ := List.mem_filterMap.1 h
  exact ⟨a, ha, clip_some hc⟩
theorem clip_bd {l : List Ar} {i j : Nat} {b : Ar} (h : b ∈ l.filterMap (clip i j)) : i ≤ plo b ∧ phi b ≤ j := by
  obtain ⟨a, ha, hc, rfl⟩ := clip_mem h
  rw [cutA_plo, cutA_phi]; omega
theorem clip_srt : ∀ {l : List Ar} {i j : Nat}, srt l → srt (l.filterMap (clip i j))
  | [], _, _, _ => trivial
  | a :: l, i, j, h => by
    rw [List.filterMap_cons]
    cases hc : clip i j a with
    | none => exact clip_srt h.2.2
    | some b =>
      obtain ⟨h1, rfl⟩ := clip_some hc
      refine ⟨cutA_formed h.1 (by omega) h1 (by omega), fun c hcm => ?_, clip_srt h.2.2⟩
      obtain ⟨d, hd, h2, rfl⟩ := clip_mem hcm
      have := h.2.1 d hd
      rw [cutA_phi, cutA_plo]; omega
theorem clip_pgs : ∀ {l : List Ar} {i j : Nat}, srt l → ∀ p, pgs (l.filterMap (clip i j)) p = if i ≤ p ∧ p < j then pgs l p else none
  | [], _, _, _, p => by simp [pgs_nil]
  | a :: l, i, j, h, p => by
    rw [List.filterMap_cons, pgs_cons]
    have ih := clip_pgs (i := i) (j := j) h.2.2 p
    cases hc : clip i j a with
    | none =>
      simp only
      rw [ih]
      by_cases hp : i ≤ p ∧ p < j
      · rw [if_pos hp, if_pos hp]
        unfold clip at hc
        split at hc
        · cases hc
        · rw [if_neg (by omega)]
      · rw [if_neg hp, if_neg hp]
    | some b =>
      obtain ⟨h1, rfl⟩ := clip_some hc
      simp only
      rw [pgs_cons, ih, cutA_plo, cutA_phi, cutA_pattr]
      by_cases hp : i ≤ p ∧ p < j
      · rw [if_pos hp]
        by_cases ha : plo a ≤ p ∧ p < phi a
        · rw [if_pos (by omega), if_pos ha, if_pos hp]
        · rw [if_neg (by omega), if_neg ha, if_pos hp]
      · rw [if_neg (by omega), if_neg hp, if_neg hp]
theorem clip_nog {l : List Ar} {i j : Nat} (h : srt l) (hn : nog l) : nog (l.filterMap (clip i j)) := by
  intro x hx y hy
  obtain ⟨a, ha, h1, rfl⟩ := clip_mem hx
  obtain ⟨b, hb, h2, rfl⟩ := clip_mem hy
  have fa := srt_formed h a ha
  have fb := srt_formed h b hb
  have pa := formed_pages fa
  have pb := formed_pages fb
  cases hg : goes (cutA a (max (plo a) i) (min (phi a) j)) (cutA b (max (plo b) i) (min (phi b) j)) with
  | false => rfl
  | true =>
    exfalso
    obtain ⟨g1, g2, g3, g4, g5⟩ := (goes_iff (cutA_formed fa (by omega) h1 (by omega)) (cutA_formed fb (by omega) h2 (by omega))).1 hg
    rw [cutA_phi, cutA_plo] at g1
    have hg2 : goes a b = true := by
      refine (goes_iff fa fb).2 ⟨by omega, g2, g3, g4, fun h0 => ?_⟩
      have g5 := g5 h0
      have g4' : a.b = b.b := g4
      unfold cutA at g5
      simp only at g5
      rw [if_neg h0, if_neg (by omega)] at g5
      omega
    rw [hn a ha b hb] at hg2; cases hg2

/-! ### Lists behind one another -/
theorem srt_app {l m : List Ar} {k : Nat} (hl : srt l) (hm : srt m) (h1 : ∀ a ∈ l, phi a ≤ k) (h2 : ∀ b ∈ m, k ≤ plo b) : srt (l ++ m) := by
  induction l with
  | nil => exact hm
  | cons a l ih =>
    refine ⟨hl.1, fun b hb => ?_, ih hl.2.2 fun c hc => h1 c (List.mem_cons_of_mem _ hc)⟩
    rcases List.mem_append.1 hb with hb | hb
    · exact hl.2.1 b hb
    · have := h1 a (List.mem_cons_self ..); have := h2 b hb; omega
theorem srt_app_left {l m : List Ar} (h : srt (l ++ m)) : srt l := by
  induction l with
  | nil => trivial
  | cons a l ih => exact ⟨h.1, fun b hb => h.2.1 b (List.mem_append_left _ hb), ih h.2.2⟩
theorem srt_app_right {l m : List Ar} (h : srt (l ++ m)) : srt m := by
  induction l with
  | nil => exact h
  | cons a l ih => exact ih h.2.2
theorem srt_app_le {l m : List Ar} (h : srt (l ++ m)) : ∀ a ∈ l, ∀ b ∈ m, phi a ≤ plo b := by
  induction l with
  | nil => intro a ha; simp at ha
  | cons c l ih =>
    intro a ha b hb
    rcases List.mem_cons.1 ha with e | ha
    · rw [e]; exact h.2.1 b (List.mem_append_right _ hb)
    · exact ih h.2.2 a ha b hb
theorem srt_of_app {l m : List Ar} (hl : srt l) (hm : srt m) (h : ∀ a ∈ l, ∀ b ∈ m, phi a ≤ plo b) : srt (l ++ m) := by
  induction l with
  | nil => exact hm
  | cons a l ih =>
    refine ⟨hl.1, fun b hb => ?_, ih hl.2.2 fun c hc => h c (List.mem_cons_of_mem _ hc)⟩
    rcases List.mem_append.1 hb with hb | hb
    · exact hl.2.1 b hb
    · exact h a (List.mem_cons_self ..) b hb
theorem pgs_app (l m : List Ar) (p : Nat) : pgs (l ++ m) p = (pgs l p).or (pgs m p) := by
  induction l with
  | nil => simp [pgs_nil]
  | cons a l ih =>
    rw [List.cons_append, pgs_cons, pgs_cons, ih]
    split <;> simp

/-! ### Joining -/
theorem ajoin_eq {a b : Ar} (ha : formed a = true) (hb : formed b = true) : ajoin a b = if goes a b then some { a with e := b.e } else none := by
  unfold ajoin
  cases hg : goes a b with
  | false => simp
  | true =>
    have hf : formed { a with e := b.e } = true := by
      obtain ⟨g1, g2, g3, g4, g5⟩ := (goes_iff ha hb).1 hg
      obtain ⟨a1, a2, a3, a4, a5⟩ := formed_pages ha
      obtain ⟨b1, b2, b3, b4, b5⟩ := formed_pages hb
      obtain ⟨f1, f2, f3, f4, f5, f6, f7, f8, f9, f10, f11, f12, f13⟩ := (formed_iff a).1 ha
      obtain ⟨k1, k2, k3, k4, k5, k6, k7, k8, k9, k10, k11, k12, k13⟩ := (formed_iff b).1 hb
      refine (formed_iff _).2 ?_
      simp only
      by_cases h0 : a.b = 0
      · have := f10 h0
        refine ⟨?_, ?_, ?_, ?_, ?_, ?_, ?_, ?_, ?_, ?_, ?_, ?_, ?_⟩ <;> omega
      · have := g5 h0
        refine ⟨?_, ?_, ?_, ?_, ?_, ?_, ?_, ?_, ?_, ?_, ?_, ?_, ?_⟩ <;> omega
    simp [hf]
/-- an area and the one that it goes on in, as one -/
theorem joined_one {a b : Ar} (ha : formed a = true) (hb : formed b = true) (hg : goes a b = true) : formed { a with e := b.e } = true ∧ plo { a with e := b.e } = plo a ∧ phi { a with e := b.e } = phi b ∧ (∀ p, pattr { a with e := b.e } p = pattr a p) ∧ (∀ p, pattr b p = pattr a p) := by
  obtain ⟨g1, g2, g3, g4, g5⟩ := (goes_iff ha hb).1 hg
  obtain ⟨a1, a2, a3, a4, a5⟩ := formed_pages ha
  obtain ⟨b1, b2, b3, b4, b5⟩ := formed_pages hb
  have hj := ajoin_eq ha hb
  rw [hg, if_pos rfl] at hj
  refine ⟨?_, rfl, rfl, fun p => rfl, fun p => ?_⟩
  · unfold ajoin at hj
    split at hj
    · rename_i h; simp only [Bool.and_eq_true] at h; exact h.2
    · cases hj
  · unfold pattr
    simp only [At.mk.injEq]
    refine ⟨g2.symm, g3.symm, g4.symm, ?_⟩
    by_cases h0 : a.b > 0
    · have := g5 (by omega)
      rw [if_pos (by omega), if_pos h0]; omega
    · rw [if_neg (by omega), if_neg h0]
theorem join_inv : ∀ (l out : List Ar), srt (out ++ l) → nog out → srt (l.foldl joinStep out) ∧ nog (l.foldl joinStep out) ∧ ∀ p, pgs (l.foldl joinStep out) p = pgs (out ++ l) p
  | [], out, h1, h2 => by rw [List.append_nil] at h1; exact ⟨h1, h2, fun p => by rw [List.append_nil]; rfl⟩
  | a :: l, out, h1, h2 => by
    rw [List.foldl_cons]
    have fa : formed a = true := srt_formed h1 a (by simp)
    have pa := formed_pages fa
    rcases List.eq_nil_or_concat out with rfl | ⟨init, z, rfl⟩
    · have e : joinStep [] a = [a] := rfl
      rw [e]
      refine join_inv l [a] h1 fun x hx y hy => ?_
      simp only [List.mem_cons, List.not_mem_nil, or_false] at hx hy
      rw [hx, hy]
      cases hg : goes a a with
      | false => rfl
      | true => have := ((goes_iff fa fa).1 hg).1; omega
    · rw [List.concat_eq_append] at h1 h2 ⊢
      have fz : formed z = true := srt_formed h1 z (by simp)
      have pz_ := formed_pages fz
      have e : joinStep (init ++ [z]) a = match ajoin z a with | some j => init ++ [j] | none => init ++ [z] ++ [a] := by
        cases h : ajoin z a <;> simp [joinStep, h]
      have hle := srt_app_le (l := init ++ [z]) (m := a :: l) h1
      have hsi := srt_app_left (l := init ++ [z]) h1
      have hiz := srt_app_le hsi
      have hza := hle z (by simp) a (by simp)
      rw [e, ajoin_eq fz fa]
      cases hg : goes z a with
      | true =>
        obtain ⟨j1, j2, j3, j4, j5⟩ := joined_one fz fa hg
        obtain ⟨g1, g2, g3, g4, g5⟩ := (goes_iff fz fa).1 hg
        simp only [if_true]
        have hsl := srt_app_right (l := init ++ [z]) h1
        have hs : srt (init ++ [{ z with e := a.e }] ++ l) := by
          rw [List.append_assoc]
          refine srt_of_app (srt_app_left hsi) ⟨j1, fun b hb => ?_, hsl.2.2⟩ fun x hx y hy => ?_
          · rw [j3]; exact hsl.2.1 b hb
          · have hxz := hiz x hx z (by simp)
            rcases List.mem_cons.1 hy with ey | hy
            · rw [ey, j2]; exact hxz
            · have := hle x (by simp [hx]) y (List.mem_cons_of_mem _ hy); exact this
        obtain ⟨r1, r2, r3⟩ := join_inv l (init ++ [{ z with e := a.e }]) hs fun x hx y hy => by
          have fx : formed x = true := srt_formed (srt_app_left (l := init ++ [{ z with e := a.e }]) hs) x hx
          have fy : formed y = true := srt_formed (srt_app_left (l := init ++ [{ z with e := a.e }]) hs) y hy
          cases hgx : goes x y with
          | false => rfl
          | true =>
            exfalso
            obtain ⟨k1, k2, k3, k4, k5⟩ := (goes_iff fx fy).1 hgx
            rcases List.mem_append.1 hx with hx | hx <;> rcases List.mem_append.1 hy with hy | hy
            · rw [h2 x (by simp [hx]) y (by simp [hy])] at hgx; cases hgx
            · simp only [List.mem_cons, List.not_mem_nil, or_false] at hy
              subst hy
              have : goes x z = true := (goes_iff fx fz).2 ⟨k1, k2, k3, k4, k5⟩
              rw [h2 x (by simp [hx]) z (by simp)] at this; cases this
            · simp only [List.mem_cons, List.not_mem_nil, or_false] at hx
              have := hiz y hy z (by simp)
              have py := formed_pages fy
              rw [hx, j3] at k1
              omega
            · simp only [List.mem_cons, List.not_mem_nil, or_false] at hx hy
              rw [hx, hy, j3, j2] at k1
              omega
        refine ⟨r1, r2, fun p => ?_⟩
        rw [r3, pgs_app, pgs_app, pgs_app (init ++ [z]), pgs_app init, pgs_cons, pgs_cons, pgs_cons, j2, j3, j4, j5]
        by_cases c1 : plo z ≤ p ∧ p < phi a
        · rw [if_pos c1]
          by_cases c2 : plo z ≤ p ∧ p < phi z
          · rw [if_pos c2]; cases pgs init p <;> simp
          · rw [if_neg c2, if_pos (show plo a ≤ p ∧ p < phi a by omega)]; cases pgs init p <;> simp [pgs_nil]
        · rw [if_neg c1, if_neg (by omega), if_neg (by omega)]
      | false =>
        simp only [Bool.false_eq_true, if_false]
        have hs : srt (init ++ [z] ++ [a] ++ l) := by simpa using h1
        obtain ⟨r1, r2, r3⟩ := join_inv l (init ++ [z] ++ [a]) hs fun x hx y hy => by
          have fx : formed x = true := srt_formed (srt_app_left (l := init ++ [z] ++ [a]) hs) x hx
          have fy : formed y = true := srt_formed (srt_app_left (l := init ++ [z] ++ [a]) hs) y hy
          have px := formed_pages fx
          have py := formed_pages fy
          cases hgx : goes x y with
          | false => rfl
          | true =>
            exfalso
            obtain ⟨k1, k2, k3, k4, k5⟩ := (goes_iff fx fy).1 hgx
            rcases List.mem_append.1 hx with hx | hx <;> rcases List.mem_append.1 hy with hy | hy
            · rw [h2 x hx y hy] at hgx; cases hgx
            · simp only [List.mem_cons, List.not_mem_nil, or_false] at hy
              rw [hy] at hgx k1
              rcases List.mem_append.1 hx with hx | hx
              · have := hiz x hx z (by simp); omega
              · simp only [List.mem_cons, List.not_mem_nil, or_false] at hx
                rw [hx, hg] at hgx; cases hgx
            · simp only [List.mem_cons, List.not_mem_nil, or_false] at hx
              have := hle y hy a (by simp)
              rw [hx] at k1; omega
            · simp only [List.mem_cons, List.not_mem_nil, or_false] at hx hy
              rw [hx, hy] at k1; omega
        refine ⟨r1, r2, fun p => ?_⟩
        rw [r3]; simp
theorem joined_spec {l : List Ar} (h : srt l) : srt (joinedS l) ∧ nog (joinedS l) ∧ ∀ p, pgs (joinedS l) p = pgs l p := by
  have := join_inv l [] h (fun x hx => by simp at hx)
  simpa [joinedS] using this
end Go.Abs
