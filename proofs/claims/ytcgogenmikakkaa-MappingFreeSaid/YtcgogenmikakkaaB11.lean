/-
  Joined texts: M7 M8 M9 E0 E1.
-/
import Derived.Test.YtcgogenmikakkaaB6
import Derived.Test.YtcgogenmikakkaaB8
import Derived.Test.YtcgogenmikakkaaB5
import Derived.Test.YtcgogenmikakkaaB3
import Derived.Deep.Slices
import Derived.Deep.Fields
import Derived.ChangeSame
import Derived.OpenShut
import Derived.WideShapes
/-
  Mapping by pages: the program's list is the reference's.
-/
namespace Go.Abs
set_option linter.unusedVariables false
set_option linter.unusedSimpArgs false

theorem pgD_ofStep {s : List Pg} {a : Ar} {q : Nat} (hq : q < s.length) : pgD (ofStep s a) q = if plo a ≤ q ∧ q < phi a then pgAt (pattr a q) else pgD s q := pgD_updm hq
theorem of_pgs_aux : ∀ (l : List Ar) (s : List Pg), srt l → ∀ q, q < s.length → pgD (l.foldl ofStep s) q = match pgs l q with | some t => pgAt t | none => pgD s q
  | [], s, _, q, _ => by simp [pgs_nil]
  | a :: l, s, h, q, hq => by
    rw [List.foldl_cons, of_pgs_aux l _ h.2.2 q (by rw [ofStep_len]; exact hq), pgD_ofStep hq, pgs_cons]
    by_cases hc : plo a ≤ q ∧ q < phi a
    · rw [if_pos hc, if_pos hc, pgs_none (l := l) (p := q) (fun b hb hb' => by have := h.2.1 b hb; omega)]
    · rw [if_neg hc, if_neg hc]
theorem of_pgs {l : List Ar} (h : srt l) {q : Nat} (hq : q < 512) : pgD (ofS l) q = match pgs l q with | some t => pgAt t | none => Pg.zero := by
  rw [ofS, of_pgs_aux l pz h q (by rw [pz_len]; exact hq)]
  cases pgs l q
  · exact pgD_pzm q
  · rfl
theorem of_i {l : List Ar} (h : srt l) {q : Nat} (hq : q < 512) : (pgD (ofS l) q).i = (pgs l q).isSome := by
  rw [of_pgs h hq]; cases pgs l q <;> rfl
theorem of_out (s : List Pg) (hs : s.length = 512) {q : Nat} (hq : ¬ q < 512) : pgD s q = Pg.zero := by
  unfold pgD; rw [List.getD_eq_getElem?_getD, List.getElem?_eq_none (by omega)]; rfl
theorem gps_ofS {l : List Ar} (h : srt l) : gps (ofS l) := fun q h1 h2 hi => by
  rw [of_pgs h h2] at hi ⊢
  cases hp : pgs l q with
  | none => rw [hp] at hi; cases hi
  | some t =>
    obtain ⟨a, ha, h1, h2, rfl⟩ := pgs_some hp
    exact gat_pattr (srt_formed h a ha) h1 h2
/-- a right list with a space's pages is the space's list -/
theorem list_of {m : List Ar} (hm : right m = true) {s : List Pg} (hg : gps s) (h : ∀ q, 16 ≤ q → q < 512 → (if (pgD s q).i = true then some (pgD s q).at else none) = pgs m q) : m = listS s := by
  obtain ⟨h1, h2⟩ := listS_spec hg
  refine right_ext hm h1 fun q => ?_
  rw [h2]
  by_cases hq : 16 ≤ q ∧ q < 512
  · rw [← h q hq.1 hq.2]
    by_cases hi : (pgD s q).i = true
    · rw [if_pos hi, if_pos ⟨hq.1, hq.2, hi⟩]
    · rw [if_neg hi, if_neg (fun h => hi h.2.2)]
  · rw [if_neg (fun h => hq ⟨h.1, h.2.1⟩)]
    cases hp : pgs m q with
    | none => rfl
    | some t => exact absurd (pgs_range (right_srt hm) hp) hq
theorem list_ofS {l : List Ar} (h : right l = true) : listS (ofS l) = l := by
  refine (list_of h (gps_ofS (right_srt h)) fun q h1 h2 => ?_).symm
  rw [of_pgs (right_srt h) h2]
  cases pgs l q <;> rfl
/-- pages put: the attributes that a range's pages get -/
def goodAt (a : At) (n : Nat) : Prop := 0 ≤ a.p ∧ a.p ≤ 7 ∧ 0 ≤ a.b ∧ a.b ≤ 9 ∧ (a.b = 0 → a.o = 0) ∧ a.o % 4096 = 0 ∧ 0 ≤ a.o ∧ a.o + 4096 * (n : Int) ≤ 1099511627776
def arOf (i j : Nat) (t : At) : Ar := ⟨4096 * (i : Int), 4096 * (j : Int), t.p, t.sh, t.b, t.o⟩
theorem arOf_spec {i j : Nat} (h1 : 16 ≤ i) (h2 : i < j) (h3 : j ≤ 512) {t : At} (ht : goodAt t (j - i)) : formed (arOf i j t) = true ∧ plo (arOf i j t) = i ∧ phi (arOf i j t) = j ∧ ∀ q : Nat, i ≤ q → pattr (arOf i j t) q = wAt t ((q : Int) - i) := by
  obtain ⟨t1, t2, t3, t4, t5, t6, t7, t8⟩ := ht
  refine ⟨?_, ?_, ?_, fun q hq => ?_⟩
  · rw [formed_iff]
    simp only [arOf]
    refine ⟨by omega, by omega, by omega, by omega, by omega, t1, t2, t3, t4, t5, t6, t7, by omega⟩
  · simp only [plo, arOf]; omega
  · simp only [phi, arOf]; omega
  · unfold pattr wAt
    simp only [arOf]
    by_cases hb : t.b > 0
    · simp only [hb, if_true, At.mk.injEq, true_and]; omega
    · have : t.b = 0 := by omega
      simp only [hb, if_false, t5 this]
theorem wAt_gat {t : At} {n : Nat} (ht : goodAt t n) {k : Int} (h0 : 0 ≤ k) (h1 : k < n) : gat (wAt t k) := by
  obtain ⟨t1, t2, t3, t4, t5, t6, t7, t8⟩ := ht
  unfold wAt gat
  simp only
  refine ⟨t1, t2, t3, t4, fun hb => by rw [if_neg (by omega)]; exact t5 hb, ?_⟩
  split
  · refine ⟨by omega, by omega, by omega⟩
  · refine ⟨t6, t7, by omega⟩
theorem pgD_with {s : List Pg} (hs : s.length = 512) (i j : Nat) (t : At) {q : Nat} (hq : q < 512) : pgD (withP s i j t) q = if i ≤ q ∧ q < j then pgAt (wAt t ((q : Int) - i)) else pgD s q := pgD_updm (by omega)
theorem pgD_without {s : List Pg} (hs : s.length = 512) (i j : Nat) {q : Nat} (hq : q < 512) : pgD (withoutP s i j) q = if i ≤ q ∧ q < j then Pg.zero else pgD s q := pgD_updm (by omega)
theorem gps_with {s : List Pg} (hs : s.length = 512) (hg : gps s) {i j : Nat} {t : At} (ht : i < j → goodAt t (j - i)) : gps (withP s i j t) := fun q h1 h2 hi => by
  rw [pgD_with hs i j t h2] at hi ⊢
  by_cases hc : i ≤ q ∧ q < j
  · rw [if_pos hc]
    exact wAt_gat (ht (by omega)) (by omega) (by omega)
  · rw [if_neg hc] at hi ⊢
    exact hg q h1 h2 hi
theorem gps_without {s : List Pg} (hs : s.length = 512) (hg : gps s) (i j : Nat) : gps (withoutP s i j) := fun q h1 h2 hi => by
  rw [pgD_without hs i j h2] at hi ⊢
  by_cases hc : i ≤ q ∧ q < j
  · rw [if_pos hc] at hi; cases hi
  · rw [if_neg hc] at hi ⊢
    exact hg q h1 h2 hi
/-- put, by the reference -/
theorem put_ref {l : List Ar} (h : right l = true) {s : List Pg} (hs : s.length = 512) (hg : gps s) (hsp : ∀ q, 16 ≤ q → q < 512 → (if (pgD s q).i = true then some (pgD s q).at else none) = pgs l q) {i j : Nat} (h1 : 16 ≤ i) (h2 : i < j) (h3 : j ≤ 512) {t : At} (ht : goodAt t (j - i)) : putS l (arOf i j t) = listS (withP s i j t) := by
  obtain ⟨a1, a2, a3, a4⟩ := arOf_spec h1 h2 h3 ht
  obtain ⟨p1, p2⟩ := put_spec h a1
  refine list_of p1 (gps_with hs hg fun _ => ht) fun q q1 q2 => ?_
  rw [pgD_with hs i j t q2, p2, a2, a3]
  by_cases hc : i ≤ q ∧ q < j
  · rw [if_pos hc, if_pos hc, a4 q hc.1]; rfl
  · rw [if_neg hc, if_neg hc]; exact hsp q q1 q2
theorem cut_ref {l : List Ar} (h : right l = true) {s : List Pg} (hs : s.length = 512) (hg : gps s) (hsp : ∀ q, 16 ≤ q → q < 512 → (if (pgD s q).i = true then some (pgD s q).at else none) = pgs l q) {i j : Nat} (h1 : 16 ≤ i) (h2 : i < j) (h3 : j ≤ 512) : cutS l (4096 * (i : Int)) (4096 * (j : Int)) = listS (withoutP s i j) := by
  obtain ⟨p1, p2⟩ := cut_spec h h1 h2 h3
  refine list_of p1 (gps_without hs hg i j) fun q q1 q2 => ?_
  rw [pgD_without hs i j q2, p2]
  by_cases hc : i ≤ q ∧ q < j
  · rw [if_pos hc, if_pos hc]; rfl
  · rw [if_neg hc, if_neg hc]; exact hsp q q1 q2
theorem of_sp {l : List Ar} (h : right l = true) : ∀ q, 16 ≤ q → q < 512 → (if (pgD (ofS l) q).i = true then some (pgD (ofS l) q).at else none) = pgs l q := fun q h1 h2 => by
  rw [of_pgs (right_srt h) h2]
  cases pgs l q <;> rfl
theorem kept_ref {l m : List Ar} {s : List Pg} (h : m = listS s) (v : Int) : keptS l m v = rkeptS l s v := by rw [h]; unfold keptS rkeptS; generalize listS s = m; rfl

/-! ### Flags -/
set_option maxRecDepth 100000 in
theorem iand_bits : ∀ f : Fin 256, (iand (f.val : Int) 1 ≠ 0 ↔ (f.val : Int) % 2 = 1) ∧ (iand (f.val : Int) 2 ≠ 0 ↔ (f.val : Int) / 2 % 2 = 1) ∧ (iand (f.val : Int) 4 ≠ 0 ↔ (f.val : Int) / 4 % 2 = 1) ∧ (iand (f.val : Int) 8 ≠ 0 ↔ (f.val : Int) / 8 % 2 = 1) ∧ (iand (f.val : Int) 3 = 2 ↔ (f.val : Int) % 4 = 2) ∧
    (iand (f.val : Int) 16 ≠ 0 ↔ (f.val : Int) / 16 % 2 = 1) ∧ (iand (f.val : Int) 32 ≠ 0 ↔ (f.val : Int) / 32 % 2 = 1) ∧ (iand (f.val : Int) 33 ≠ 0 ↔ ((f.val : Int) % 2 = 1 ∨ (f.val : Int) / 32 % 2 = 1)) := by decide +kernel
theorem iand_f {f : Int} (h0 : 0 ≤ f) (h1 : f < 256) : (iand f 1 ≠ 0 ↔ f % 2 = 1) ∧ (iand f 2 ≠ 0 ↔ f / 2 % 2 = 1) ∧ (iand f 4 ≠ 0 ↔ f / 4 % 2 = 1) ∧ (iand f 8 ≠ 0 ↔ f / 8 % 2 = 1) ∧ (iand f 3 = 2 ↔ f % 4 = 2) ∧
    (iand f 16 ≠ 0 ↔ f / 16 % 2 = 1) ∧ (iand f 32 ≠ 0 ↔ f / 32 % 2 = 1) ∧ (iand f 33 ≠ 0 ↔ (f % 2 = 1 ∨ f / 32 % 2 = 1)) := by
  have := iand_bits ⟨f.toNat, by omega⟩
  have e : ((f.toNat : Nat) : Int) = f := by omega
  simp only [e] at this
  exact this
/-- the bits from k on are none just if the number is less -/
theorem andn_zero {f m : Int} (h0 : 0 ≤ f) (h1 : f < 9223372036854775808) : iandn f m = 0 ↔ BitVec.ofInt 64 f &&& ~~~ BitVec.ofInt 64 m = 0#64 := by
  unfold iandn
  have hb := (BitVec.ofInt 64 f &&& ~~~ BitVec.ofInt 64 m).isLt
  have hlt : (BitVec.ofInt 64 f &&& ~~~ BitVec.ofInt 64 m).toNat < 9223372036854775808 := by
    rw [BitVec.toNat_and]
    refine Nat.lt_of_le_of_lt Nat.and_le_left ?_
    rw [BitVec.toNat_ofInt]; omega
  rw [wr, Go.Abs.wrap_id (by omega) (by omega)]
  constructor
  · intro h; exact BitVec.eq_of_toNat_eq (by simpa using h)
  · intro h; rw [h]; rfl
theorem big_zero {f : Nat} (hf : f < 9223372036854775808) {m : BitVec 64} {k : Nat} (hm : ∀ i, k ≤ i → m.getLsbD i = false) (h : BitVec.ofNat 64 f &&& ~~~ m = 0#64) : f < 2 ^ k := by
  refine Nat.lt_pow_two_of_testBit _ fun i hi => ?_
  by_cases h64 : i < 64
  · have := congrArg (fun x => x.getLsbD i) h
    simp only [BitVec.getLsbD_and, BitVec.getLsbD_not, BitVec.getLsbD_ofNat, h64, hm i hi, decide_true, Bool.true_and, Bool.not_false, Bool.and_true] at this
    simpa using this
  · exact Nat.testBit_lt_two_pow (Nat.lt_of_lt_of_le hf (by
      have : 2 ^ 63 ≤ 2 ^ i := Nat.pow_le_pow_right (by omega) (by omega)
      simpa using this))
set_option maxRecDepth 100000 in
theorem fin15 : ∀ f : Fin 16, iandn (f.val : Int) 15 = 0 := by decide +kernel
set_option maxRecDepth 100000 in
theorem fin49 : ∀ f : Fin 64, (iandn (f.val : Int) 49 = 0 ↔ (f.val : Int) / 2 % 8 = 0) := by decide +kernel
theorem flags15 {f : Int} (h1 : f < 9223372036854775808) : flagsS f 15 = 0 ↔ 0 ≤ f ∧ f ≤ 15 := by
  unfold flagsS
  by_cases h0 : f < 0
  · rw [if_pos (.inl h0)]; omega
  · by_cases hz : iandn f 15 = 0
    · rw [if_neg (by simp [h0, hz])]
      have := (andn_zero (by omega) h1).1 hz
      have e : BitVec.ofInt 64 f = BitVec.ofNat 64 f.toNat := by rw [← BitVec.ofInt_natCast]; congr 1; omega
      rw [e] at this
      have := big_zero (k := 4) (by omega) (m := BitVec.ofInt 64 15) (by
        intro i hi
        have : BitVec.ofInt 64 15 = BitVec.ofNat 64 15 := rfl
        rw [this, BitVec.getLsbD_ofNat, Nat.testBit_lt_two_pow (Nat.lt_of_lt_of_le (by decide : 15 < 2 ^ 4) (Nat.pow_le_pow_right (by omega) hi)), Bool.and_false]) this
      omega
    · rw [if_pos (.inr hz)]
      refine ⟨fun h => by simp at h, fun h => ?_⟩
      have := fin15 ⟨f.toNat, by omega⟩
      have e : ((f.toNat : Nat) : Int) = f := by omega
      simp only [e] at this
      exact absurd this hz
theorem flags49 {f : Int} (h1 : f < 9223372036854775808) : flagsS f 49 = 0 ↔ 0 ≤ f ∧ f ≤ 63 ∧ f / 2 % 8 = 0 := by
  unfold flagsS
  by_cases h0 : f < 0
  · rw [if_pos (.inl h0)]; omega
  · by_cases hz : iandn f 49 = 0
    · rw [if_neg (by simp [h0, hz])]
      have := (andn_zero (by omega) h1).1 hz
      have e : BitVec.ofInt 64 f = BitVec.ofNat 64 f.toNat := by rw [← BitVec.ofInt_natCast]; congr 1; omega
      rw [e] at this
      have := big_zero (k := 6) (by omega) (m := BitVec.ofInt 64 49) (by
        intro i hi
        have : BitVec.ofInt 64 49 = BitVec.ofNat 64 49 := rfl
        rw [this, BitVec.getLsbD_ofNat, Nat.testBit_lt_two_pow (Nat.lt_of_lt_of_le (by decide : 49 < 2 ^ 6) (Nat.pow_le_pow_right (by omega) hi)), Bool.and_false]) this
      have h2 := fin49 ⟨f.toNat, by omega⟩
      have e : ((f.toNat : Nat) : Int) = f := by omega
      simp only [e] at h2
      exact ⟨fun _ => ⟨by omega, by omega, h2.1 hz⟩, fun _ => rfl⟩
    · rw [if_pos (.inr hz)]
      refine ⟨fun h => by simp at h, fun h => ?_⟩
      have h2 := fin49 ⟨f.toNat, by omega⟩
      have e : ((f.toNat : Nat) : Int) = f := by omega
      simp only [e] at h2
      exact absurd (h2.2 h.2.2) hz
end Go.Abs
/-
  Gaps by pages: Fits, Lowest, Highest are the reference's; so are Place, Map and Unmap.
-/
namespace Go.Abs
set_option linter.unusedVariables false
set_option linter.unusedSimpArgs false

theorem gaps_al : ∀ {l : List Ar} {k : Nat}, srt l → (∀ b ∈ l, k ≤ plo b) → k ≤ 512 → ∀ g ∈ gapsF (4096 * (k : Int)) l, ∃ x y : Nat, g.s = 4096 * (x : Int) ∧ g.e = 4096 * (y : Int) ∧ k ≤ x ∧ x < y ∧ y ≤ 512
  | [], k, _, _, hk, g, hg => by
    unfold gapsF at hg
    split at hg
    · simp only [List.mem_singleton] at hg; subst hg; exact ⟨k, 512, rfl, rfl, Nat.le_refl _, by omega, Nat.le_refl _⟩
    · cases hg
  | a :: l, k, h, hb, hk, g, hg => by
    obtain ⟨p1, p2, p3, p4, p5⟩ := formed_pages h.1
    have hka := hb a (by simp)
    unfold gapsF at hg
    rcases List.mem_append.1 hg with hg | hg
    · split at hg
      · simp only [List.mem_singleton] at hg; subst hg; exact ⟨k, plo a, rfl, p4, Nat.le_refl _, by omega, by omega⟩
      · cases hg
    · rw [p5] at hg
      obtain ⟨x, y, e1, e2, e3, e4, e5⟩ := gaps_al (k := phi a) h.2.2 h.2.1 p3 g hg
      exact ⟨x, y, e1, e2, by omega, e4, e5⟩
theorem gaps_sorted : ∀ {l : List Ar} {k : Nat}, srt l → (∀ b ∈ l, k ≤ plo b) → k ≤ 512 → (gapsF (4096 * (k : Int)) l).Pairwise fun g g' => g.e ≤ g'.s
  | [], k, _, _, _ => by unfold gapsF; split <;> simp
  | a :: l, k, h, hb, hk => by
    obtain ⟨p1, p2, p3, p4, p5⟩ := formed_pages h.1
    have ih := gaps_sorted (k := phi a) h.2.2 h.2.1 p3
    unfold gapsF
    rw [p5]
    split
    · rw [List.singleton_append, List.pairwise_cons]
      refine ⟨fun g hg => ?_, ih⟩
      obtain ⟨x, y, e1, e2, e3, e4, e5⟩ := gaps_al (k := phi a) h.2.2 h.2.1 p3 g hg
      simp only; omega
    · exact ih
theorem gaps_iff : ∀ {l : List Ar} {k : Nat}, srt l → (∀ b ∈ l, k ≤ plo b) → k ≤ 512 → ∀ {i j : Nat}, k ≤ i → i < j → j ≤ 512 → ((∃ g ∈ gapsF (4096 * (k : Int)) l, g.s ≤ 4096 * (i : Int) ∧ 4096 * (j : Int) ≤ g.e) ↔ ∀ p, i ≤ p → p < j → pgs l p = none)
  | [], k, _, _, _, i, j, h1, h2, h3 => by
    unfold gapsF
    rw [if_pos (by omega)]
    constructor
    · intro _ p _ _; exact pgs_nil p
    · intro _; exact ⟨⟨4096 * (k : Int), 2097152⟩, by simp, by simp only; omega, by simp only; omega⟩
  | a :: l, k, h, hb, hk, i, j, h1, h2, h3 => by
    obtain ⟨p1, p2, p3, p4, p5⟩ := formed_pages h.1
    have hka := hb a (by simp)
    have hal := gaps_al (k := phi a) h.2.2 h.2.1 p3
    unfold gapsF
    rw [p5, p4]
    by_cases c1 : j ≤ plo a
    · constructor
      · intro _ p hp1 hp2
        rw [pgs_cons, if_neg (by omega)]
        exact pgs_none fun b hb' hb2 => by have := h.2.1 b hb'; omega
      · intro _
        exact ⟨⟨4096 * (k : Int), 4096 * (plo a : Int)⟩, by rw [if_pos (by omega)]; simp, by simp only; omega, by simp only; omega⟩
    · by_cases c2 : phi a ≤ i
      · have ih := gaps_iff (k := phi a) h.2.2 h.2.1 p3 c2 h2 h3
        constructor
        · rintro ⟨g, hg, g1, g2⟩ p hp1 hp2
          rw [pgs_cons, if_neg (by omega)]
          refine ih.1 ⟨g, ?_, g1, g2⟩ p hp1 hp2
          rcases List.mem_append.1 hg with hg | hg
          · split at hg
            · simp only [List.mem_singleton] at hg; subst hg; simp only at g2; omega
            · cases hg
          · exact hg
        · intro hp
          obtain ⟨g, hg, g1, g2⟩ := ih.2 fun p hp1 hp2 => by
            have := hp p hp1 hp2
            rw [pgs_cons, if_neg (by omega)] at this
            exact this
          exact ⟨g, List.mem_append.2 (.inr hg), g1, g2⟩
      · constructor
        · rintro ⟨g, hg, g1, g2⟩
          exfalso
          rcases List.mem_append.1 hg with hg | hg
          · split at hg
            · simp only [List.mem_singleton] at hg; subst hg; simp only at g2; omega
            · cases hg
          · obtain ⟨x, y, e1, e2, e3, e4, e5⟩ := hal g hg
            omega
        · intro hp
          exfalso
          have := hp (max i (plo a)) (by omega) (by omega)
          rw [pgs_cons, if_pos (by omega)] at this
          cases this
/-! ### Those that have room -/
theorem gin_all {g : Ga} {x y : Nat} (h1 : g.s = 4096 * (x : Int)) (h2 : g.e = 4096 * (y : Int)) (hx : 16 ≤ x) (hy : y ≤ 512) : ginS g 65536 2097152 = g := by
  have c1 : clampS 65536 = 65536 := by decide
  have c2 : clampS 2097152 = 2097152 := by decide
  unfold ginS
  rw [c1, c2, if_neg (by omega), if_neg (by omega)]
def GOk (G : List Ga) : Prop := (∀ g ∈ G, ∃ x y : Nat, g.s = 4096 * (x : Int) ∧ g.e = 4096 * (y : Int) ∧ 16 ≤ x ∧ x < y ∧ y ≤ 512) ∧ G.Pairwise fun g g' => g.e ≤ g'.s
theorem gin_wr {G : List Ga} (hG : GOk G) {g : Ga} (hg : g ∈ G) {n : Int} (h0 : 1 ≤ n) (h1 : n ≤ 2031616) : ginS g 65536 2097152 = g ∧ wr (g.e - g.s) = g.e - g.s ∧ wr (g.e - n) = g.e - n ∧ g.s < g.e := by
  obtain ⟨x, y, e1, e2, e3, e4, e5⟩ := hG.1 g hg
  exact ⟨gin_all e1 e2 e3 e5, wrap_id (by omega) (by omega), wrap_id (by omega) (by omega), by omega⟩
theorem high_spec {n : Int} (h0 : 1 ≤ n) (h1 : n ≤ 2031616) : ∀ (m : Nat) (G : List Ga), G.length = m → GOk G →
    (G.foldl (highStep 65536 2097152 n) (0, false) = (0, false) ∧ ∀ g ∈ G, g.e - g.s < n) ∨ ∃ g ∈ G, g.e - g.s ≥ n ∧ G.foldl (highStep 65536 2097152 n) (0, false) = (g.e - n, true) ∧ ∀ g' ∈ G, g'.e - g'.s ≥ n → g'.e ≤ g.e
  | 0, G, hm, _ => by
    rw [List.length_eq_zero_iff.1 hm]; exact .inl ⟨rfl, fun g h => by cases h⟩
  | m + 1, G, hm, hG => by
    rcases List.eq_nil_or_concat G with rfl | ⟨init, z, rfl⟩
    · cases hm
    rw [List.concat_eq_append] at hm hG ⊢
    have hz : z ∈ init ++ [z] := by simp
    obtain ⟨w1, w2, w3, w4⟩ := gin_wr hG hz h0 h1
    have hp := List.pairwise_append.1 hG.2
    have hinit : GOk init := ⟨fun g hg => hG.1 g (List.mem_append.2 (.inl hg)), hp.1⟩
    have ih := high_spec h0 h1 m init (by simpa using hm) hinit
    rw [List.foldl_append, List.foldl_cons, List.foldl_nil]
    generalize init.foldl (highStep 65536 2097152 n) (0, false) = r at ih
    unfold highStep
    rw [w1, w2, w3]
    by_cases hf : z.e - z.s ≥ n
    · rw [if_pos hf]
      refine .inr ⟨z, hz, hf, rfl, fun g' hg' hf' => ?_⟩
      rcases List.mem_append.1 hg' with hg' | hg'
      · have := hp.2.2 g' hg' z (by simp); omega
      · simp only [List.mem_singleton] at hg'; subst hg'; omega
    · rw [if_neg hf]
      rcases ih with ⟨ih1, ih2⟩ | ⟨g, hg, ih1, ih2, ih3⟩
      · refine .inl ⟨ih1, fun g hg => ?_⟩
        rcases List.mem_append.1 hg with hg | hg
        · exact ih2 g hg
        · simp only [List.mem_singleton] at hg; subst hg; omega
      · refine .inr ⟨g, List.mem_append.2 (.inl hg), ih1, ih2, fun g' hg' hf' => ?_⟩
        rcases List.mem_append.1 hg' with hg' | hg'
        · exact ih3 g' hg' hf'
        · simp only [List.mem_singleton] at hg'; subst hg'; omega
theorem low_spec {n : Int} (h0 : 1 ≤ n) (h1 : n ≤ 2031616) : ∀ (G : List Ga), GOk G →
    (lowS 65536 2097152 n G = (0, false) ∧ ∀ g ∈ G, g.e - g.s < n) ∨ ∃ g ∈ G, g.e - g.s ≥ n ∧ lowS 65536 2097152 n G = (g.s, true) ∧ ∀ g' ∈ G, g'.e - g'.s ≥ n → g.s ≤ g'.s
  | [], _ => .inl ⟨rfl, fun g h => by cases h⟩
  | z :: G, hG => by
    obtain ⟨w1, w2, w3, w4⟩ := gin_wr hG (List.mem_cons_self) h0 h1
    obtain ⟨hp1, hp2⟩ := List.pairwise_cons.1 hG.2
    have ih := low_spec h0 h1 G ⟨fun g hg => hG.1 g (List.mem_cons_of_mem _ hg), hp2⟩
    unfold lowS
    rw [w1, w2]
    by_cases hf : z.e - z.s ≥ n
    · rw [if_pos hf]
      refine .inr ⟨z, by simp, hf, rfl, fun g' hg' hf' => ?_⟩
      rcases List.mem_cons.1 hg' with rfl | hg'
      · omega
      · have := hp1 g' hg'; omega
    · rw [if_neg hf]
      rcases ih with ⟨ih1, ih2⟩ | ⟨g, hg, ih1, ih2, ih3⟩
      · refine .inl ⟨ih1, fun g hg => ?_⟩
        rcases List.mem_cons.1 hg with rfl | hg
        · omega
        · exact ih2 g hg
      · refine .inr ⟨g, List.mem_cons_of_mem _ hg, ih1, ih2, fun g' hg' hf' => ?_⟩
        rcases List.mem_cons.1 hg' with rfl | hg'
        · omega
        · exact ih3 g' hg' hf'
/-- the reference's choice -/
theorem choose_spec (s : List Pg) (n : Int) (gr : Bool) : ∀ m, m ≤ 496 →
    let b := (List.range' 16 m).foldl (chStep s n gr) (-1)
    let fr := fun p : Nat => (decide (4096 * (p : Int) + n ≤ 2097152) && freeP s p (n / 4096)) = true
    (b = -1 ∧ ∀ p, 16 ≤ p → p < 16 + m → ¬ fr p) ∨ ∃ P : Nat, 16 ≤ P ∧ P < 16 + m ∧ fr P ∧ b = 4096 * (P : Int) ∧ ∀ p, 16 ≤ p → p < 16 + m → fr p → if gr = true then p ≤ P else P ≤ p
  | 0, _ => .inl ⟨rfl, fun p h1 h2 => by omega⟩
  | m + 1, h => by
    have ih := choose_spec s n gr m (by omega)
    simp only [List.range'_concat, Nat.one_mul, List.foldl_append, List.foldl_cons, List.foldl_nil] at ih ⊢
    generalize (List.range' 16 m).foldl (chStep s n gr) (-1) = b at ih
    unfold chStep
    by_cases hf : (decide (4096 * ((16 + m : Nat) : Int) + n ≤ 2097152) && freeP s ((16 + m : Nat) : Int) (n / 4096)) = true
    · rw [hf, Bool.true_and]
      rcases ih with ⟨rfl, ih2⟩ | ⟨P, i1, i2, i3, i4, i5⟩
      · rw [if_pos (by simp)]
        refine .inr ⟨16 + m, by omega, by omega, hf, rfl, fun p h1 h2 h3 => ?_⟩
        by_cases e : p = 16 + m
        · subst e; split <;> omega
        · exact absurd h3 (ih2 p h1 (by omega))
      · cases gr
        · rw [if_neg (by simp; omega)]
          refine .inr ⟨P, i1, by omega, i3, i4, fun p h1 h2 h3 => ?_⟩
          by_cases e : p = 16 + m
          · subst e; simp; omega
          · exact i5 p h1 (by omega) h3
        · rw [if_pos (by simp)]
          refine .inr ⟨16 + m, by omega, by omega, hf, rfl, fun p h1 h2 h3 => ?_⟩
          simp; omega
    · rw [if_neg (by simp only [Bool.and_eq_true] at hf ⊢; exact fun h => hf h.1)]
      rcases ih with ⟨rfl, ih2⟩ | ⟨P, i1, i2, i3, i4, i5⟩
      · refine .inl ⟨rfl, fun p h1 h2 => ?_⟩
        by_cases e : p = 16 + m
        · subst e; exact hf
        · exact ih2 p h1 (by omega)
      · refine .inr ⟨P, i1, by omega, i3, i4, fun p h1 h2 h3 => ?_⟩
        by_cases e : p = 16 + m
        · subst e; exact absurd h3 hf
        · exact i5 p h1 (by omega) h3
theorem gsize_ok (n : Int) : gsizeS n = okSize n := by
  unfold gsizeS okSize
  have : (n.tmod 4096 == 0) = decide (n % 4096 = 0) := by
    rw [Bool.eq_iff_iff, beq_iff_eq, decide_eq_true_eq, tmod_zero]
  rw [this, Bool.eq_iff_iff]
  simp only [Bool.and_eq_true, decide_eq_true_eq]
  omega
theorem ok_size {n : Int} (h : okSize n = true) : ∃ m : Nat, n = 4096 * (m : Int) ∧ 1 ≤ m ∧ m ≤ 496 := by
  simp only [okSize, Bool.and_eq_true, decide_eq_true_eq] at h
  exact ⟨(n / 4096).toNat, by omega, by omega, by omega⟩
theorem gaps_ok {l : List Ar} (h : right l = true) : GOk (gapsF 65536 l) := by
  have hs := right_srt h
  have hb : ∀ b ∈ l, 16 ≤ plo b := fun b hb => (formed_pages (srt_formed hs b hb)).1
  exact ⟨gaps_al (k := 16) hs hb (by omega), gaps_sorted (k := 16) hs hb (by omega)⟩
/-- free pages -/
theorem free_iff {l : List Ar} (h : right l = true) {p m : Nat} (hm : 1 ≤ m) (hm2 : m ≤ 496) : freeP (ofS l) p (m : Int) = true ↔ 16 ≤ p ∧ p + m ≤ 512 ∧ ∃ g ∈ gapsF 65536 l, g.s ≤ 4096 * (p : Int) ∧ 4096 * ((p + m : Nat) : Int) ≤ g.e := by
  have hs := right_srt h
  have hb : ∀ b ∈ l, 16 ≤ plo b := fun b hb => (formed_pages (srt_formed hs b hb)).1
  unfold freeP
  simp only [Bool.and_eq_true, decide_eq_true_eq, Int.toNat_natCast, allFree_iff]
  constructor
  · rintro ⟨⟨⟨⟨h1, h2⟩, h3⟩, h4⟩, h5⟩
    refine ⟨by omega, by omega, (gaps_iff (k := 16) hs hb (by omega) (i := p) (j := p + m) (by omega) (by omega) (by omega)).2 fun q q1 q2 => ?_⟩
    have := h5 q q1 q2
    rw [of_i hs (by omega)] at this
    simpa using this
  · rintro ⟨h1, h2, h3⟩
    refine ⟨⟨⟨⟨by omega, by omega⟩, by omega⟩, by omega⟩, fun q q1 q2 => ?_⟩
    rw [of_i hs (by omega), (gaps_iff (k := 16) hs hb (by omega) (i := p) (j := p + m) (by omega) (by omega) (by omega)).1 h3 q q1 q2]
    rfl
theorem choose_eq {l : List Ar} (h : right l = true) (n f : Int) (hf : 0 ≤ f ∧ f < 256) : chooseS l n f = if chooseP (ofS l) n (decide (f / 8 % 2 = 0)) < 0 then (0, false) else (chooseP (ofS l) n (decide (f / 8 % 2 = 0)), true) := by
  have h8 := (iand_f hf.1 hf.2).2.2.2.1
  unfold chooseS chooseP
  simp only [lowestS, highestS, gsize_ok, h, Bool.and_true]
  cases hok : okSize n
  · simp
  obtain ⟨m, rfl, m1, m2⟩ := ok_size hok
  have hG := gaps_ok h
  have em : 4096 * (m : Int) / 4096 = m := by omega
  have hfr : ∀ p : Nat, (decide (4096 * (p : Int) + 4096 * (m : Int) ≤ 2097152) && freeP (ofS l) p (4096 * (m : Int) / 4096)) = true ↔ 16 ≤ p ∧ p + m ≤ 512 ∧ ∃ g ∈ gapsF 65536 l, g.s ≤ 4096 * (p : Int) ∧ 4096 * ((p + m : Nat) : Int) ≤ g.e := by
    intro p
    rw [em, Bool.and_eq_true, free_iff h m1 m2, decide_eq_true_eq]
    exact ⟨fun h => h.2, fun h => ⟨by omega, h⟩⟩
  have hch := choose_spec (ofS l) (4096 * (m : Int)) (decide (f / 8 % 2 = 0)) 496 (Nat.le_refl _)
  simp only [hfr] at hch
  simp only [if_true]
  generalize (List.range' 16 496).foldl (chStep (ofS l) (4096 * (m : Int)) (decide (f / 8 % 2 = 0))) (-1) = b at hch
  by_cases h8' : f / 8 % 2 = 1
  · rw [if_pos (h8.2 h8')]
    have hgr : decide (f / 8 % 2 = 0) = false := by simp; omega
    rw [hgr] at hch
    simp only [Bool.false_eq_true, if_false] at hch
    rcases low_spec (n := 4096 * (m : Int)) (by omega) (by omega) _ hG with ⟨e1, e2⟩ | ⟨g, hg, e1, e2, e3⟩
    · rw [e1]
      rcases hch with ⟨rfl, _⟩ | ⟨P, i1, i2, ⟨_, _, g, hg, k1, k2⟩, i4, i5⟩
      · rfl
      · have := e2 g hg; omega
    · rw [e2]
      obtain ⟨x, y, x1, x2, x3, x4, x5⟩ := hG.1 g hg
      have hx : 16 ≤ x ∧ x + m ≤ 512 ∧ ∃ g ∈ gapsF 65536 l, g.s ≤ 4096 * (x : Int) ∧ 4096 * ((x + m : Nat) : Int) ≤ g.e := ⟨x3, by omega, g, hg, by omega, by omega⟩
      rcases hch with ⟨rfl, i1⟩ | ⟨P, i1, i2, ⟨_, _, g', hg', k1, k2⟩, i4, i5⟩
      · exact absurd hx (i1 x x3 (by omega))
      · have := i5 x x3 (by omega) hx
        have := e3 g' hg' (by omega)
        rw [if_neg (by omega), i4, x1]
        have : P = x := by omega
        rw [this]
  · rw [if_neg (fun h => h8' (h8.1 h))]
    have hgr : decide (f / 8 % 2 = 0) = true := by simp; omega
    rw [hgr] at hch
    simp only [if_true] at hch
    rcases high_spec (n := 4096 * (m : Int)) (by omega) (by omega) _ _ rfl hG with ⟨e1, e2⟩ | ⟨g, hg, e1, e2, e3⟩
    · rw [e1]
      rcases hch with ⟨rfl, _⟩ | ⟨P, i1, i2, ⟨_, _, g, hg, k1, k2⟩, i4, i5⟩
      · rfl
      · have := e2 g hg; omega
    · rw [e2]
      obtain ⟨x, y, x1, x2, x3, x4, x5⟩ := hG.1 g hg
      have hx : 16 ≤ y - m ∧ y - m + m ≤ 512 ∧ ∃ g ∈ gapsF 65536 l, g.s ≤ 4096 * ((y - m : Nat) : Int) ∧ 4096 * ((y - m + m : Nat) : Int) ≤ g.e := ⟨by omega, by omega, g, hg, by omega, by omega⟩
      rcases hch with ⟨rfl, i1⟩ | ⟨P, i1, i2, ⟨_, _, g', hg', k1, k2⟩, i4, i5⟩
      · exact absurd hx (i1 (y - m) (by omega) (by omega))
      · have := i5 (y - m) (by omega) (by omega) hx
        have := e3 g' hg' (by omega)
        rw [if_neg (by omega), i4, x2]
        have : P = y - m := by omega
        rw [this]
        congr 1
        omega
theorem fits_eq {l : List Ar} (h : right l = true) (a n : Int) : fitsS l a n = rfitsS l a n := by
  unfold fitsS rfitsS gapsS
  rw [gsize_ok, if_pos h]
  cases hok : okSize n
  · simp
  obtain ⟨m, rfl, m1, m2⟩ := ok_size hok
  by_cases ha : a % 4096 = 0
  case neg => simp [ha]
  have em : 4096 * (m : Int) / 4096 = m := by omega
  rw [em, Bool.eq_iff_iff]
  simp only [Bool.and_eq_true, decide_eq_true_eq, List.any_eq_true, Bool.true_and, ha, true_and]
  constructor
  · rintro ⟨⟨h1, h2⟩, g, hg, g1, g2⟩
    obtain ⟨i, rfl⟩ : ∃ i : Nat, a = 4096 * (i : Int) := ⟨(a / 4096).toNat, by omega⟩
    have ei : 4096 * (i : Int) / 4096 = i := by omega
    rw [ei]
    exact ⟨⟨by omega, by omega⟩, (free_iff h m1 m2).2 ⟨by omega, by omega, g, hg, by omega, by omega⟩⟩
  · rintro ⟨⟨h1, h2⟩, h3⟩
    obtain ⟨i, rfl⟩ : ∃ i : Nat, a = 4096 * (i : Int) := ⟨(a / 4096).toNat, by omega⟩
    have ei : 4096 * (i : Int) / 4096 = i := by omega
    rw [ei] at h3
    obtain ⟨k1, k2, g, hg, k3, k4⟩ := (free_iff h m1 m2).1 h3
    exact ⟨⟨by omega, by omega⟩, g, hg, by omega, by omega⟩
/-- some page of a range -/
theorem some_iff {l : List Ar} (h : right l = true) {i j : Nat} (hij : i < j) (hj : j ≤ 512) : someP (ofS l) (4096 * (i : Int)) (4096 * (j : Int)) = true ↔ ∃ p, i ≤ p ∧ p < j ∧ pgs l p ≠ none := by
  have hs := right_srt h
  unfold someP touchedS
  simp only [List.any_eq_true, List.mem_range, Bool.and_eq_true, decide_eq_true_eq]
  constructor
  · rintro ⟨p, hp, h1, ⟨h2, h3⟩, h4⟩
    rw [of_i hs hp] at h1
    refine ⟨p, by omega, by omega, fun hn => ?_⟩
    rw [hn] at h1; cases h1
  · rintro ⟨p, h1, h2, h3⟩
    refine ⟨p, by omega, ?_, ⟨by omega, by omega⟩, by omega⟩
    rw [of_i hs (by omega)]
    cases hp : pgs l p with
    | none => exact absurd hp h3
    | some t => rfl
theorem within_iff {l : List Ar} (h : right l = true) {i j : Nat} (hij : i < j) (hj : j ≤ 512) : (WithinS l (4096 * (i : Int)) (4096 * (j : Int))).length > 0 ↔ ∃ p, i ≤ p ∧ p < j ∧ pgs l p ≠ none := by
  have hs := right_srt h
  have e : WithinS l (4096 * (i : Int)) (4096 * (j : Int)) = l.filterMap (clip i j) := by
    unfold WithinS
    rw [if_neg (by simp [h]; omega), within_clip (right_formed h) hj]
  have hp := clip_pgs (i := i) (j := j) hs
  have hsr := clip_srt (i := i) (j := j) hs
  rw [e]
  generalize l.filterMap (clip i j) = W at hp hsr
  cases W with
  | nil =>
    refine ⟨fun h => by simp at h, ?_⟩
    rintro ⟨p, h1, h2, h3⟩
    have := hp p
    rw [if_pos ⟨h1, h2⟩, pgs_nil] at this
    exact absurd this.symm h3
  | cons b W =>
    refine ⟨fun _ => ?_, fun _ => by simp⟩
    obtain ⟨p1, p2, p3, p4, p5⟩ := formed_pages hsr.1
    have h1 := hp (plo b)
    rw [pgs_cons, if_pos ⟨Nat.le_refl _, p2⟩] at h1
    split at h1
    · rename_i hc
      exact ⟨plo b, hc.1, hc.2, fun hn => by rw [hn] at h1; cases h1⟩
    · cases h1
theorem place_eq {l : List Ar} (h : mayS l = true) (a n f : Int) (hf : 0 ≤ f ∧ f < 256) : placeS l a n f = rplaceS l a n f := by
  have hr := (may_right h).1
  obtain ⟨b1, b2, _⟩ := iand_f hf.1 hf.2
  unfold placeS rplaceS
  rw [if_neg (by simp [h]), fits_eq hr]
  by_cases h1 : f % 2 = 1
  · rw [if_pos (b1.2 h1), if_pos h1]
    unfold fixedS
    by_cases h2 : (rangeS a n).2.2 = 0
    · have e2 : ¬ ((rangeS a n).2.2 ≠ 0) := by simpa using h2
      rw [if_neg e2, if_neg e2]
      obtain ⟨i, j, i1, i2, i3, i4, i5, i6, i7, i8⟩ := rangeS_ok h2
      rw [i8]
      simp only
      by_cases h3 : f / 2 % 2 = 1
      · by_cases h4 : ∃ p, i ≤ p ∧ p < j ∧ pgs l p ≠ none
        · rw [if_pos ⟨b2.2 h3, (within_iff hr i2 i3).2 h4⟩, if_pos ⟨h3, (some_iff hr i2 i3).2 h4⟩]
        · rw [if_neg (fun h => h4 ((within_iff hr i2 i3).1 h.2)), if_neg (fun h => h4 ((some_iff hr i2 i3).1 h.2))]
      · rw [if_neg (fun h => h3 (b2.1 h.1)), if_neg (fun h => h3 h.1)]
    · rw [if_pos h2, if_pos h2]
  · rw [if_neg (fun h => h1 (b1.1 h)), if_neg h1, choose_eq hr n f hf]
    by_cases h2 : a ≠ 0 ∧ rfitsS l a n = true
    · rw [if_pos h2, if_pos h2]
    · rw [if_neg h2, if_neg h2]
      split <;> simp_all
/-- **Map is the reference's.** -/
theorem place_al {l : List Ar} (h : mayS l = true) {a f : Int} {m : Nat} (m1 : 1 ≤ m) (m2 : m ≤ 496) (hf : 0 ≤ f ∧ f < 256) (hp : (placeS l a (4096 * (m : Int)) f).2 = 0) : ∃ i : Nat, (placeS l a (4096 * (m : Int)) f).1 = 4096 * (i : Int) ∧ 16 ≤ i ∧ i + m ≤ 512 := by
  have hr := (may_right h).1
  rw [place_eq h _ _ _ hf] at hp ⊢
  have hbd := rplace_bd (l := l) (a := a) (f := f) (n := 4096 * (m : Int)) (by omega) (by omega) (by omega) hp
  have hal : (rplaceS l a (4096 * (m : Int)) f).1 % 4096 = 0 := by
    unfold rplaceS at hp ⊢
    split
    · split
      · simp
      · rename_i hr2
        obtain ⟨i, j, i1, i2, i3, i4, _⟩ := rangeS_ok (a := a) (n := 4096 * (m : Int)) (by simpa using hr2)
        split
        · simp
        · simp only; omega
    · split
      · rename_i h2
        have := h2.2
        simp only [rfitsS, Bool.and_eq_true, decide_eq_true_eq] at this
        simp only; omega
      · split
        · simp
        · rename_i hlt
          simp only
          have := choose_spec (ofS l) (4096 * (m : Int)) (decide (f / 8 % 2 = 0)) 496 (Nat.le_refl _)
          simp only at this
          have hc : chooseP (ofS l) (4096 * (m : Int)) (decide (f / 8 % 2 = 0)) = (List.range' 16 496).foldl (chStep (ofS l) (4096 * (m : Int)) (decide (f / 8 % 2 = 0))) (-1) := by
            unfold chooseP okSize
            rw [if_pos]
            simp only [Bool.and_eq_true, decide_eq_true_eq]; omega
          rw [hc] at hlt ⊢
          rcases this with ⟨e, _⟩ | ⟨P, _, _, _, e, _⟩
          · rw [e] at hlt; omega
          · rw [e]; omega
  exact ⟨((rplaceS l a (4096 * (m : Int)) f).1 / 4096).toNat, by omega, by omega, by omega⟩
theorem wrong_eq {c : Ca} (hf : c.f < 9223372036854775808) : awrongS c = rwrongS c := by
  have h15 := flags15 hf
  unfold awrongS rwrongS
  by_cases h1 : (sizeS c.l).2 = 0
  case neg =>
    have e0 : rwrong0 c = (sizeS c.l).2 := by unfold rwrong0; rw [if_pos h1]
    rw [e0, if_pos h1, if_pos h1]
  have n1 : ¬ ((sizeS c.l).2 ≠ 0) := by simpa using h1
  have e0 : rwrong0 c = if c.p < 0 ∨ c.p > 7 ∨ c.f < 0 ∨ c.f > 15 ∨ c.f % 4 = 2 then 1 else 0 := by unfold rwrong0; rw [if_neg n1]
  rw [e0, if_neg n1]
  by_cases h2 : c.p < 0 ∨ c.p > 7
  · have e : protS c.p = 1 := by unfold protS; rw [if_pos h2]
    have c1 : c.p < 0 ∨ c.p > 7 ∨ c.f < 0 ∨ c.f > 15 ∨ c.f % 4 = 2 := by omega
    rw [e, if_pos (by decide), if_pos c1, if_pos (by decide)]
  have e : protS c.p = 0 := by unfold protS; rw [if_neg h2]
  have z : ¬ ((0 : Int) ≠ 0) := by decide
  rw [e, if_neg z]
  by_cases h3 : c.f < 0 ∨ c.f > 15
  · have e : flagsS c.f 15 = 1 := by
      unfold flagsS at h15 ⊢
      split
      · rfl
      · rename_i hn; rw [if_neg hn] at h15; omega
    have c1 : c.p < 0 ∨ c.p > 7 ∨ c.f < 0 ∨ c.f > 15 ∨ c.f % 4 = 2 := by omega
    rw [e, if_pos (by decide), if_pos c1, if_pos (by decide)]
  have e : flagsS c.f 15 = 0 := h15.2 (by omega)
  rw [e, if_neg z]
  have b3 := (iand_f (f := c.f) (by omega) (by omega)).2.2.2.2.1
  by_cases h4 : c.f % 4 = 2
  · have c1 : c.p < 0 ∨ c.p > 7 ∨ c.f < 0 ∨ c.f > 15 ∨ c.f % 4 = 2 := by omega
    rw [if_pos (b3.2 h4), if_pos c1, if_pos (by decide)]
  · have c1 : ¬ (c.p < 0 ∨ c.p > 7 ∨ c.f < 0 ∨ c.f > 15 ∨ c.f % 4 = 2) := by omega
    rw [if_neg (fun h => h4 (b3.1 h)), if_neg c1, if_neg z]
/-- what is asked rightly -/
theorem asked_ok {c : Ca} (hf : c.f < 9223372036854775808) (h : awrongS c = 0) : 0 ≤ c.f ∧ c.f ≤ 15 ∧ ∃ m : Nat, (sizeS c.l).1 = 4096 * (m : Int) ∧ 1 ≤ m ∧ m ≤ 496 ∧ (m : Int) = (c.l + 4095) / 4096 ∧ 0 < c.l ∧ c.l ≤ 2031616 ∧ goodAt (rAt c) m := by
  rw [wrong_eq hf] at h
  unfold rwrongS at h
  by_cases h1 : (sizeS c.l).2 = 0
  case neg =>
    have e0 : rwrong0 c = (sizeS c.l).2 := by unfold rwrong0; rw [if_pos h1]
    rw [e0, if_pos h1] at h; exact absurd h h1
  have n1 : ¬ ((sizeS c.l).2 ≠ 0) := by simpa using h1
  by_cases h2 : c.p < 0 ∨ c.p > 7 ∨ c.f < 0 ∨ c.f > 15 ∨ c.f % 4 = 2
  · have e0 : rwrong0 c = 1 := by unfold rwrong0; rw [if_neg n1, if_pos h2]
    rw [e0, if_pos (by decide)] at h; simp at h
  have e0 : rwrong0 c = 0 := by unfold rwrong0; rw [if_neg n1, if_neg h2]
  rw [e0, if_neg (by decide)] at h
  obtain ⟨z1, z2, z3⟩ := sizeS_ok h1
  refine ⟨by omega, by omega, ((c.l + 4095) / 4096).toNat, by omega, by omega, by omega, by omega, z1, z2, ?_⟩
  have w0 : IntKind.i64.wrap (1099511627776 - (sizeS c.l).1) = 1099511627776 - (sizeS c.l).1 := wrap_id (by omega) (by omega)
  unfold backS at h
  rw [wr, w0] at h
  split at h
  · simp at h
  · split at h
    · simp at h
    · split at h
      · simp at h
      · unfold goodAt rAt
        simp only
        omega
theorem arOf_mapA {c : Ca} (hf : 0 ≤ c.f ∧ c.f < 256) {i m : Nat} (hm : (sizeS c.l).1 = 4096 * (m : Int)) (him : i + m ≤ 512) : mapA c (4096 * (i : Int)) = arOf i (i + m) (rAt c) := by
  have b4 := (iand_f hf.1 hf.2).2.2.1
  have e4 : (iand c.f 4 != 0) = decide (c.f / 4 % 2 = 1) := by rw [Bool.eq_iff_iff, bne_iff_ne, decide_eq_true_eq]; exact b4
  have w : IntKind.i64.wrap (4096 * (i : Int) + 4096 * (m : Int)) = 4096 * ((i + m : Nat) : Int) := by rw [wrap_id (by omega) (by omega)]; omega
  unfold mapA arOf rAt
  simp only [askedS, hm, wr, w, e4]
theorem map_eq {l : List Ar} (h : mayS l = true) {c : Ca} (hf : c.f < 9223372036854775808) : mapS l c = rmapS l c := by
  have hr := (may_right h).1
  have ha1 : (askedS c).1 = (sizeS c.l).1 := rfl
  have ha2 : (askedS c).2 = rwrongS c := wrong_eq hf
  unfold mapS rmapS
  rw [if_neg (by simp [h]), ha1, ha2]
  by_cases h1 : rwrongS c = 0
  case neg => rw [if_pos h1, if_pos h1]
  have n1 : ¬ (rwrongS c ≠ 0) := by simpa using h1
  rw [if_neg n1, if_neg n1]
  obtain ⟨f0, f1, m, m1, m2, m3, m4, m5, m6, m7⟩ := asked_ok hf (by rw [wrong_eq hf]; exact h1)
  have hp := place_eq h c.a (sizeS c.l).1 c.f ⟨f0, by omega⟩
  by_cases h2 : (placeS l c.a (sizeS c.l).1 c.f).2 = 0
  case neg => rw [← hp, if_pos h2, if_pos h2]
  have n2 : ¬ ((placeS l c.a (sizeS c.l).1 c.f).2 ≠ 0) := by simpa using h2
  rw [← hp, if_neg n2, if_neg n2]
  rw [m1] at h2 ⊢
  obtain ⟨i, i1, i2, i3⟩ := place_al h m2 m3 ⟨f0, by omega⟩ h2
  rw [i1, arOf_mapA ⟨f0, by omega⟩ m1 i3]
  have e1 : (4096 * (i : Int) / 4096).toNat = i := by omega
  have e2 : ((4096 * (i : Int) + 4096 * (m : Int)) / 4096).toNat = i + m := by omega
  rw [e1, e2]
  refine kept_ref (put_ref hr (ofS_len l) (gps_ofS (right_srt hr)) (of_sp hr) i2 (by omega) i3 ?_) _
  rw [show i + m - i = m by omega]; exact m7
theorem unmap_eq {l : List Ar} (h : mayS l = true) (c : Ca) : unmapS l c = runmapS l c := by
  have hr := (may_right h).1
  unfold unmapS runmapS
  rw [if_neg (by simp [h])]
  by_cases h1 : (rangeS c.a c.l).2.2 = 0
  case neg => rw [if_pos h1, if_pos h1]
  have n1 : ¬ ((rangeS c.a c.l).2.2 ≠ 0) := by simpa using h1
  rw [if_neg n1, if_neg n1]
  obtain ⟨i, j, i1, i2, i3, i4, i5, i6, i7, i8⟩ := rangeS_ok h1
  rw [i8]
  simp only
  have e1 : (4096 * (i : Int) / 4096).toNat = i := by omega
  have e2 : (4096 * (j : Int) / 4096).toNat = j := by omega
  rw [e1, e2]
  exact kept_ref (cut_ref hr (ofS_len l) (gps_ofS (right_srt hr)) (of_sp hr) i1 i2 i3) _
end Go.Abs
/-
  Mapping twice; a hint; mapped and unmapped.
-/
namespace Go.Abs
set_option linter.unusedVariables false
set_option linter.unusedSimpArgs false

theorem kept_len (was now : List Ar) (v : Int) : (keptS was now v).1.length ≤ max was.length 24 := by
  unfold keptS; split
  · simp only; omega
  · simp only; omega
theorem map_len (l : List Ar) (c : Ca) : (mapS l c).1.length ≤ max l.length 24 := by
  unfold mapS
  split
  · simp only; omega
  · split
    · simp only; omega
    · split
      · simp only; omega
      · exact kept_len _ _ _
theorem unmap_len (l : List Ar) (c : Ca) : (unmapS l c).1.length ≤ max l.length 24 := by
  unfold unmapS
  split
  · simp only; omega
  · split
    · simp only; omega
    · exact kept_len _ _ _
/-- what was mapped without an error -/
theorem map_ok {x : List Ar} (hx : mayS x = true) {c : Ca} (hf : c.f < 9223372036854775808) (h : (mapS x c).2.s = 0) : 0 ≤ c.f ∧ c.f ≤ 15 ∧ awrongS c = 0 ∧ ∃ i m : Nat, 16 ≤ i ∧ 1 ≤ m ∧ i + m ≤ 512 ∧ (m : Int) = (c.l + 4095) / 4096 ∧ 0 < c.l ∧ c.l ≤ 2031616 ∧ (sizeS c.l).1 = 4096 * (m : Int) ∧ placeS x c.a (4096 * (m : Int)) c.f = (4096 * (i : Int), 0) ∧
    goodAt (rAt c) m ∧ (putS x (arOf i (i + m) (rAt c))).length ≤ 24 ∧ mapS x c = (putS x (arOf i (i + m) (rAt c)), ansV (4096 * (i : Int))) := by
  unfold mapS at h ⊢
  have n0 : ¬ (mayS x = false) := by simp [hx]
  have ha1 : (askedS c).1 = (sizeS c.l).1 := rfl
  have ha2 : (askedS c).2 = awrongS c := rfl
  rw [if_neg n0, ha1, ha2] at h
  by_cases h1 : awrongS c = 0
  case neg => rw [if_pos h1] at h; exact absurd h h1
  have n1 : ¬ (awrongS c ≠ 0) := by simpa using h1
  rw [if_neg n1] at h
  obtain ⟨f0, f1, m, m1, m2, m3, m4, m5, m6, m7⟩ := asked_ok hf h1
  rw [m1] at h
  by_cases h2 : (placeS x c.a (4096 * (m : Int)) c.f).2 = 0
  case neg => rw [if_pos h2] at h; exact absurd h h2
  have n2 : ¬ ((placeS x c.a (4096 * (m : Int)) c.f).2 ≠ 0) := by simpa using h2
  rw [if_neg n2] at h
  obtain ⟨i, i1, i2, i3⟩ := place_al hx m2 m3 ⟨f0, by omega⟩ h2
  rw [i1, arOf_mapA ⟨f0, by omega⟩ m1 i3] at h
  have h24 : (putS x (arOf i (i + m) (rAt c))).length ≤ 24 := by
    rw [kept_err] at h
    split at h
    · simp at h
    · omega
  refine ⟨f0, f1, h1, i, m, i2, m2, i3, m4, m5, m6, m1, Prod.ext i1 h2, m7, h24, ?_⟩
  rw [if_neg n0, ha1, ha2, if_neg n1, m1, if_neg n2, i1, arOf_mapA ⟨f0, by omega⟩ m1 i3]
  unfold keptS
  rw [if_neg (by omega)]
theorem map_no {x : List Ar} {c : Ca} (h : (mapS x c).2.s ≠ 0) : (mapS x c).1 = x := by
  unfold mapS at h ⊢
  split
  · rfl
  · rename_i h1
    rw [if_neg h1] at h
    split
    · rfl
    · rename_i h2
      rw [if_neg h2] at h
      split
      · rfl
      · rename_i h3
        rw [if_neg h3] at h
        unfold keptS at h ⊢
        split
        · rfl
        · rename_i h4
          rw [if_neg h4] at h; exact absurd rfl h
/-- put again -/
theorem put_again {x : List Ar} (hx : right x = true) {a : Ar} (ha : formed a = true) : putS (putS x a) a = putS x a := by
  obtain ⟨p1, p2⟩ := put_spec hx ha
  obtain ⟨q1, q2⟩ := put_spec p1 ha
  refine right_ext q1 p1 fun q => ?_
  rw [q2, p2]; split <;> rfl
/-- a place that is told -/
theorem place_fixed {l : List Ar} (hl : mayS l = true) {a n f : Int} (hf : 0 ≤ f ∧ f < 256) (h1 : f % 2 = 1) (hr : (rangeS a n).2.2 = 0) (h2 : f / 2 % 2 = 0) : placeS l a n f = (a, 0) := by
  rw [place_eq hl _ _ _ hf]
  unfold rplaceS
  rw [if_pos h1, if_neg (by simpa using hr), if_neg (fun h => by omega)]
theorem place_taken {l : List Ar} (hl : mayS l = true) {f : Int} {i j : Nat} {n : Int} (hf : 0 ≤ f ∧ f < 256) (h1 : f % 2 = 1) (hij : i < j) (hj : j ≤ 512) (hr : rangeS (4096 * (i : Int)) n = (4096 * (i : Int), 4096 * (j : Int), 0)) (h2 : f / 2 % 2 = 1) (hp : pgs l i ≠ none) : placeS l (4096 * (i : Int)) n f = (0, 6) := by
  rw [place_eq hl _ _ _ hf]
  unfold rplaceS
  rw [if_pos h1, hr, if_neg (by simp), if_pos ⟨h2, (some_iff (may_right hl).1 hij hj).2 ⟨i, Nat.le_refl _, hij, hp⟩⟩]
theorem fixed_ok {x : List Ar} (hx : mayS x = true) {a n f : Int} {v : Int} (hf : 0 ≤ f ∧ f < 256) (h1 : f % 2 = 1) (h : placeS x a n f = (v, 0)) : v = a ∧ (rangeS a n).2.2 = 0 := by
  rw [place_eq hx _ _ _ hf] at h
  unfold rplaceS at h
  rw [if_pos h1] at h
  by_cases hr : (rangeS a n).2.2 = 0
  · rw [if_neg (by simpa using hr)] at h
    split at h
    · simp at h
    · simp only [Prod.mk.injEq] at h; exact ⟨h.1.symm, hr⟩
  · rw [if_pos hr] at h
    simp only [Prod.mk.injEq] at h
    exact absurd h.2 hr
theorem again {x : List Ar} (hx : mayS x = true) {c : Ca} {g : Int} (hg : g = 0 ∨ g = 1) (h : (mapS x { c with f := 1 + g * 4 }).2.s = 0) :
    mayS (mapS x { c with f := 1 + g * 4 }).1 = true ∧ mapS (mapS x { c with f := 1 + g * 4 }).1 { c with f := 1 + g * 4 } = mapS x { c with f := 1 + g * 4 } ∧
    mapS (mapS x { c with f := 1 + g * 4 }).1 { c with f := 1 + g * 4 + 2 } = ((mapS x { c with f := 1 + g * 4 }).1, ansE 6) := by
  have hr := (may_right hx).1
  obtain ⟨f0, f1, h1, i, m, i2, m2, i3, m4, m5, m6, m1, hp, m7, h24, e⟩ := map_ok hx (c := { c with f := 1 + g * 4 }) (by simp only; omega) h
  simp only at f0 f1 m4 m5 m6 m1 hp
  obtain ⟨hv, hrg⟩ := fixed_ok hx ⟨f0, by omega⟩ (by omega) hp
  obtain ⟨a1, a2, a3, a4⟩ := arOf_spec (t := rAt { c with f := 1 + g * 4 }) i2 (show i < i + m by omega) i3 (by rw [show i + m - i = m by omega]; exact m7)
  obtain ⟨p1, p2⟩ := put_spec hr a1
  have hpa := put_again hr a1
  rw [e]
  simp only
  generalize putS x (arOf i (i + m) (rAt { c with f := 1 + g * 4 })) = y at p1 p2 hpa h24
  have hy := may_of p1 h24
  have n0 : ¬ (mayS y = false) := by simp [hy]
  have ha1 : ∀ f, (askedS { c with f := f }).1 = 4096 * (m : Int) := fun f => m1
  have ha2 : (askedS { c with f := 1 + g * 4 }).2 = 0 := h1
  have hp1 : placeS y c.a (4096 * (m : Int)) (1 + g * 4) = (4096 * (i : Int), 0) := by rw [place_fixed hy ⟨f0, by omega⟩ (by omega) hrg (by omega), hv]
  have ha3 : (askedS { c with f := 1 + g * 4 + 2 }).2 = 0 := by
    have w1 := wrong_eq (c := { c with f := 1 + g * 4 }) (by simp only; omega)
    have w2 := wrong_eq (c := { c with f := 1 + g * 4 + 2 }) (by simp only; omega)
    show awrongS _ = 0
    rw [w1] at h1
    rw [w2, ← h1]
    unfold rwrongS rwrong0
    simp only
    have e1 : (c.p < 0 ∨ c.p > 7 ∨ 1 + g * 4 < 0 ∨ 1 + g * 4 > 15 ∨ (1 + g * 4) % 4 = 2) = (c.p < 0 ∨ c.p > 7 ∨ 1 + g * 4 + 2 < 0 ∨ 1 + g * 4 + 2 > 15 ∨ (1 + g * 4 + 2) % 4 = 2) := by
      rw [eq_iff_iff]; omega
    simp only [e1]
  have hpi : pgs y i ≠ none := by rw [p2, if_pos (by omega)]; simp
  have hrr : rangeS (4096 * (i : Int)) (4096 * (m : Int)) = (4096 * (i : Int), 4096 * ((i + m : Nat) : Int), 0) := by
    have := rangeS_al (i := i) (j := i + m) i2 (by omega) i3
    rw [show i + m - i = m by omega] at this
    exact this
  have hp2 : placeS y c.a (4096 * (m : Int)) (1 + g * 4 + 2) = (0, 6) := by
    rw [← hv]
    exact place_taken hy (by omega) (by omega) (by omega) i3 hrr (by omega) hpi
  refine ⟨hy, ?_, ?_⟩
  · unfold mapS
    rw [if_neg n0, ha1, ha2]
    simp only
    rw [hp1]
    simp only [ne_eq, not_true_eq_false, if_false]
    have := arOf_mapA (c := { c with f := 1 + g * 4 }) ⟨f0, by simp only; omega⟩ m1 i3
    rw [this, hpa]
    unfold keptS
    rw [if_neg (by omega)]
  · unfold mapS
    rw [if_neg n0, ha1, ha3]
    simp only
    rw [hp2]
    simp
/-- a hint that is let go -/
theorem hint {x : List Ar} {c : Ca} (h : (mapS x { c with f := 0 }).2.s = 0) (hv : (mapS x { c with f := 0 }).2.e ≠ c.a) : mapS x { c with f := 0, a := 0 } = mapS x { c with f := 0 } := by
  have i0 : ¬ (iand 0 1 ≠ 0) := by decide
  unfold mapS at h hv ⊢
  by_cases h0 : mayS x = false
  · rw [if_pos h0, if_pos h0]
  rw [if_neg h0] at h hv ⊢
  rw [if_neg h0]
  have ea : askedS { c with f := 0, a := 0 } = askedS { c with f := 0 } := rfl
  rw [ea]
  by_cases h1 : (askedS { c with f := 0 }).2 = 0
  case neg => rw [if_pos h1, if_pos h1]
  have n1 : ¬ ((askedS { c with f := 0 }).2 ≠ 0) := by simpa using h1
  rw [if_neg n1] at h hv ⊢
  rw [if_neg n1]
  have ep : placeS x c.a (askedS { c with f := 0 }).1 0 = placeS x 0 (askedS { c with f := 0 }).1 0 := by
    by_cases hfit : c.a ≠ 0 ∧ fitsS x c.a (askedS { c with f := 0 }).1 = true
    · exfalso
      have ep : placeS x c.a (askedS { c with f := 0 }).1 0 = (c.a, 0) := by unfold placeS; rw [if_neg h0, if_neg i0, if_pos hfit]
      simp only [ep] at h hv
      rw [if_neg (by decide)] at h hv
      unfold keptS at h hv
      split at h
      · simp [ansE] at h
      · rename_i h5
        rw [if_neg h5] at hv
        exact hv rfl
    · unfold placeS
      have e3 : ¬ ((0 : Int) ≠ 0 ∧ fitsS x 0 (askedS { c with f := 0 }).1 = true) := fun h => h.1 rfl
      rw [if_neg h0, if_neg i0, if_neg hfit, if_neg h0, if_neg i0, if_neg e3]
  simp only
  rw [ep]
  rfl
/-- where nothing was -/
theorem place_free {l : List Ar} (hl : mayS l = true) {a f : Int} {i m : Nat} (m1 : 1 ≤ m) (m2 : m ≤ 496) (hf : 0 ≤ f ∧ f < 256) (h1 : f % 2 ≠ 1) (h : placeS l a (4096 * (m : Int)) f = (4096 * (i : Int), 0)) : ∀ p, i ≤ p → p < i + m → pgs l p = none := by
  have hr := (may_right hl).1
  have hs := right_srt hr
  have em : 4096 * (m : Int) / 4096 = m := by omega
  have key : freeP (ofS l) (i : Int) (m : Int) = true → ∀ p, i ≤ p → p < i + m → pgs l p = none := by
    intro hfr p p1 p2
    unfold freeP at hfr
    simp only [Bool.and_eq_true, decide_eq_true_eq, Int.toNat_natCast, allFree_iff] at hfr
    have := hfr.2 p p1 p2
    rw [of_i hs (by omega)] at this
    simpa using this
  rw [place_eq hl _ _ _ hf] at h
  unfold rplaceS at h
  rw [if_neg h1] at h
  split at h
  · rename_i h2
    have h2 := h2.2
    simp only [rfitsS, Bool.and_eq_true] at h2
    simp only [Prod.mk.injEq, and_true] at h
    rw [h, em, show 4096 * (i : Int) / 4096 = i by omega] at h2
    exact key h2.2
  · split at h
    · simp at h
    · rename_i hlt
      simp only [Prod.mk.injEq, and_true] at h
      have := choose_spec (ofS l) (4096 * (m : Int)) (decide (f / 8 % 2 = 0)) 496 (Nat.le_refl _)
      simp only at this
      have hc : chooseP (ofS l) (4096 * (m : Int)) (decide (f / 8 % 2 = 0)) = (List.range' 16 496).foldl (chStep (ofS l) (4096 * (m : Int)) (decide (f / 8 % 2 = 0))) (-1) := by
        unfold chooseP okSize
        rw [if_pos]
        simp only [Bool.and_eq_true, decide_eq_true_eq]; omega
      rw [hc] at hlt h
      rcases this with ⟨e, _⟩ | ⟨P, _, _, hfr, e, _⟩
      · rw [e] at hlt; omega
      · rw [e] at h
        rw [Bool.and_eq_true, em] at hfr
        have : P = i := by omega
        subst this
        exact key hfr.2
/-- mapped where nothing was, and unmapped -/
theorem map_unmap {x : List Ar} (hx : mayS x = true) {c : Ca} (hf : c.f < 9223372036854775808) (h : (mapS x c).2.s = 0) (h1 : c.f % 2 ≠ 1) :
    someP (ofS x) (mapS x c).2.e ((mapS x c).2.e + 4096 * ((c.l + 4095) / 4096)) = false ∧ mayS (mapS x c).1 = true ∧ unmapS (mapS x c).1 ⟨0, (mapS x c).2.e, c.l, 0, 0, 0, 0, 0, 0⟩ = (x, ansV 0) ∧ 65536 ≤ (mapS x c).2.e ∧ (mapS x c).2.e ≤ 2097152 ∧ 0 < c.l ∧ c.l ≤ 2031616 := by
  have hr := (may_right hx).1
  obtain ⟨f0, f1, hw, i, m, i2, m2, i3, m4, m5, m6, m1, hp, m7, h24, e⟩ := map_ok hx hf h
  have hfree := place_free hx m2 (by omega) ⟨f0, by omega⟩ h1 hp
  obtain ⟨a1, a2, a3, a4⟩ := arOf_spec (t := rAt c) i2 (show i < i + m by omega) i3 (by rw [show i + m - i = m by omega]; exact m7)
  obtain ⟨p1, p2⟩ := put_spec hr a1
  rw [e]
  simp only [ansV]
  generalize putS x (arOf i (i + m) (rAt c)) = y at p1 p2 h24
  have hy := may_of p1 h24
  have hrg : rangeS (4096 * (i : Int)) c.l = (4096 * (i : Int), 4096 * ((i + m : Nat) : Int), 0) := by
    have hz : sizeS c.l = (4096 * (m : Int), 0) := by
      unfold sizeS
      rw [if_neg (by omega), if_neg (by omega)]
      simp only [Prod.mk.injEq, and_true]; omega
    unfold rangeS
    rw [hz]
    simp only
    rw [if_neg (by omega), if_neg (by simp), if_neg (by omega)]
    simp only [Prod.mk.injEq, and_true, true_and]; omega
  refine ⟨?_, hy, ?_, by omega, by omega, m5, m6⟩
  · have e2 : 4096 * (i : Int) + 4096 * ((c.l + 4095) / 4096) = 4096 * ((i + m : Nat) : Int) := by omega
    rw [e2]
    cases hs : someP (ofS x) (4096 * (i : Int)) (4096 * ((i + m : Nat) : Int))
    · rfl
    · obtain ⟨p, q1, q2, q3⟩ := (some_iff hr (show i < i + m by omega) i3).1 hs
      exact absurd (hfree p q1 q2) q3
  · unfold unmapS
    rw [if_neg (by simp [hy])]
    simp only
    rw [hrg]
    simp only [ne_eq, not_true_eq_false, if_false]
    obtain ⟨c1, c2⟩ := cut_spec p1 i2 (show i < i + m by omega) i3
    have : cutS y (4096 * (i : Int)) (4096 * ((i + m : Nat) : Int)) = x := by
      refine right_ext c1 hr fun q => ?_
      rw [c2, p2, a2, a3]
      by_cases hq : i ≤ q ∧ q < i + m
      · rw [if_pos hq, hfree q hq.1 hq.2]
      · rw [if_neg hq, if_neg hq]
    rw [this]
    unfold keptS
    rw [if_neg (by have := (may_right hx).2; omega)]
    rfl
end Go.Abs
/-
  Arguments that read as data are abstract values. (Printed by entry.py.)
-/
namespace Go.Abs
set_option linter.unusedVariables false
set_option linter.unusedSimpArgs false
open Go.Proofs Go.ChangeShapes Go.WideShapes Go.Deep Go.RowKit
set_option maxRecDepth 100000

/-- a number that fits into 64 bits -/
def ok64 (n : Int) : Prop := -9223372036854775808 ≤ n ∧ n < 9223372036854775808
theorem ok64_of {n : Int} (h : (Lit.int .i64 n).wf = true) : ok64 n := by
  have := bounds_i64 h
  unfold ok64
  omega
/-- memory as it is when the call begins: nothing of it is ours -/
def env0 (w : World) : Env := { loc := fun _ => .absent, mem := fun cb j => w.cell? ⟨cb, j, none⟩ }
def heap0 : Heap := { m := fun _ => none, n := 0 }
theorem rel0 (w : World) : Rel w.heap.size (env0 w) heap0 w :=
  ⟨⟨Nat.le_refl _, fun _ _ => rfl, (fun _ _ h => nomatch h), (fun _ _ _ _ _ h => nomatch h), (fun _ _ _ _ _ _ _ _ _ _ h => nomatch h)⟩, fun cb j v h => ⟨h, (fun ⟨_, _, _, _, h, _⟩ => nomatch h)⟩⟩
/-- a law's call, out of its contract -/
theorem calls0 {P : Program} {f : FuncId} {args : List Cmp} {cargs : List Value} {w : World} (h : ACalls P f args heap0 (.s (Bo true)) heap0) (ha : Al2 (CC (env0 w)) args cargs) : Calls P f cargs.toArray w fun e w' => e = .returned (.bool true) ∧ Below w.heap.size w w' := by
  refine (h.2 _ _ w cargs (rel0 w) ha).mono ?_
  rintro e w' ⟨rv, ρ', r, H', rfl, h1, h2, h3, rfl, rfl⟩
  simp only [CA, CS] at h1
  obtain ⟨rfl, _⟩ := h1
  exact ⟨rfl, h3.below (rel0 w)⟩
section
variable {H : Type} {enc : TypeId × Value → H} {w : World} {base : Nat} {spare : Nat → Bool} {held : Bool} {fuel : Nat} {cs : List Value} {x : DataW H × List MemPlace}
theorem some_of {α : Type} {l : List α} {i : Nat} (h : i < l.length) : ∃ y, l[i]? = some y := ⟨_, List.getElem?_eq_getElem h⟩
theorem c_int64 : Try.prog.cellsOf 2 = 1 := by kernel_rfl
theorem c_int : Try.prog.cellsOf 3 = 1 := by kernel_rfl
theorem c_bool : Try.prog.cellsOf 4 = 1 := by kernel_rfl
def Ar.ok (a : Ar) : Prop := ok64 a.s ∧ ok64 a.e ∧ ok64 a.p ∧ ok64 a.b ∧ ok64 a.o
theorem c_ar : Try.prog.cellsOf 40 = 6 := by kernel_rfl
theorem trod_ar (h : DataW.trod enc Try.prog w base spare held fuel 40 cs = some x) : ∃ a : Ar, cs = a.v ∧ a.ok := by
  obtain ⟨xs, n, -, -, hl, hx, hf⟩ := DataW.trod_struct Try.underlying40 h
  rw [c_ar] at hl
  have hx : xs.length = 6 := hx
  match cs, hl with
  | [c0, c1, c2, c3, c4, c5], _ =>
    obtain ⟨y0, e0⟩ := some_of (l := xs) (i := 0) (by omega)
    have h0 : DataW.trod enc Try.prog w base spare held n 2 (([c0, c1, c2, c3, c4, c5].drop 0).take (Try.prog.cellsOf 2)) = some y0 := (hf 0 _ rfl).trans e0
    simp only [c_int64, c_int, c_bool, List.drop_zero, List.drop_succ_cons, List.take_succ_cons, List.take_zero] at h0
    obtain ⟨n0, hc0, -, w0⟩ := DataW.trod_int Try.underlying2 h0
    injection hc0 with hc0
    obtain ⟨y1, e1⟩ := some_of (l := xs) (i := 1) (by omega)
    have h1 : DataW.trod enc Try.prog w base spare held n 2 (([c0, c1, c2, c3, c4, c5].drop 1).take (Try.prog.cellsOf 2)) = some y1 := (hf 1 _ rfl).trans e1
    simp only [c_int64, c_int, c_bool, List.drop_zero, List.drop_succ_cons, List.take_succ_cons, List.take_zero] at h1
    obtain ⟨n1, hc1, -, w1⟩ := DataW.trod_int Try.underlying2 h1
    injection hc1 with hc1
    obtain ⟨y2, e2⟩ := some_of (l := xs) (i := 2) (by omega)
    have h2 : DataW.trod enc Try.prog w base spare held n 3 (([c0, c1, c2, c3, c4, c5].drop 2).take (Try.prog.cellsOf 3)) = some y2 := (hf 2 _ rfl).trans e2
    simp only [c_int64, c_int, c_bool, List.drop_zero, List.drop_succ_cons, List.take_succ_cons, List.take_zero] at h2
    obtain ⟨n2, hc2, -, w2⟩ := DataW.trod_int Try.underlying3 h2
    injection hc2 with hc2
    obtain ⟨y3, e3⟩ := some_of (l := xs) (i := 3) (by omega)
    have h3 : DataW.trod enc Try.prog w base spare held n 4 (([c0, c1, c2, c3, c4, c5].drop 3).take (Try.prog.cellsOf 4)) = some y3 := (hf 3 _ rfl).trans e3
    simp only [c_int64, c_int, c_bool, List.drop_zero, List.drop_succ_cons, List.take_succ_cons, List.take_zero] at h3
    obtain ⟨n3, hc3, -⟩ := DataW.trod_bool Try.underlying4 h3
    injection hc3 with hc3
    obtain ⟨y4, e4⟩ := some_of (l := xs) (i := 4) (by omega)
    have h4 : DataW.trod enc Try.prog w base spare held n 3 (([c0, c1, c2, c3, c4, c5].drop 4).take (Try.prog.cellsOf 3)) = some y4 := (hf 4 _ rfl).trans e4
    simp only [c_int64, c_int, c_bool, List.drop_zero, List.drop_succ_cons, List.take_succ_cons, List.take_zero] at h4
    obtain ⟨n4, hc4, -, w4⟩ := DataW.trod_int Try.underlying3 h4
    injection hc4 with hc4
    obtain ⟨y5, e5⟩ := some_of (l := xs) (i := 5) (by omega)
    have h5 : DataW.trod enc Try.prog w base spare held n 2 (([c0, c1, c2, c3, c4, c5].drop 5).take (Try.prog.cellsOf 2)) = some y5 := (hf 5 _ rfl).trans e5
    simp only [c_int64, c_int, c_bool, List.drop_zero, List.drop_succ_cons, List.take_succ_cons, List.take_zero] at h5
    obtain ⟨n5, hc5, -, w5⟩ := DataW.trod_int Try.underlying2 h5
    injection hc5 with hc5
    exact ⟨⟨n0, n1, n2, n3, n4, n5⟩, by rw [hc0, hc1, hc2, hc3, hc4, hc5]; rfl, ok64_of w0, ok64_of w1, ok64_of w2, ok64_of w4, ok64_of w5⟩
theorem ar_vals (a : Ar) : a.c = a.v.map SV.raw := rfl
def Ca.ok (a : Ca) : Prop := ok64 a.k ∧ ok64 a.a ∧ ok64 a.l ∧ ok64 a.n ∧ ok64 a.t ∧ ok64 a.p ∧ ok64 a.f ∧ ok64 a.b ∧ ok64 a.o
theorem c_ca : Try.prog.cellsOf 34 = 9 := by kernel_rfl
theorem trod_ca (h : DataW.trod enc Try.prog w base spare held fuel 34 cs = some x) : ∃ a : Ca, cs = a.v ∧ a.ok := by
  obtain ⟨xs, n, -, -, hl, hx, hf⟩ := DataW.trod_struct Try.underlying34 h
  rw [c_ca] at hl
  have hx : xs.length = 9 := hx
  match cs, hl with
  | [c0, c1, c2, c3, c4, c5, c6, c7, c8], _ =>
    obtain ⟨y0, e0⟩ := some_of (l := xs) (i := 0) (by omega)
    have h0 : DataW.trod enc Try.prog w base spare held n 3 (([c0, c1, c2, c3, c4, c5, c6, c7, c8].drop 0).take (Try.prog.cellsOf 3)) = some y0 := (hf 0 _ rfl).trans e0
    simp only [c_int64, c_int, c_bool, List.drop_zero, List.drop_succ_cons, List.take_succ_cons, List.take_zero] at h0
    obtain ⟨n0, hc0, -, w0⟩ := DataW.trod_int Try.underlying3 h0
    injection hc0 with hc0
    obtain ⟨y1, e1⟩ := some_of (l := xs) (i := 1) (by omega)
    have h1 : DataW.trod enc Try.prog w base spare held n 2 (([c0, c1, c2, c3, c4, c5, c6, c7, c8].drop 1).take (Try.prog.cellsOf 2)) = some y1 := (hf 1 _ rfl).trans e1
    simp only [c_int64, c_int, c_bool, List.drop_zero, List.drop_succ_cons, List.take_succ_cons, List.take_zero] at h1
    obtain ⟨n1, hc1, -, w1⟩ := DataW.trod_int Try.underlying2 h1
    injection hc1 with hc1
    obtain ⟨y2, e2⟩ := some_of (l := xs) (i := 2) (by omega)
    have h2 : DataW.trod enc Try.prog w base spare held n 2 (([c0, c1, c2, c3, c4, c5, c6, c7, c8].drop 2).take (Try.prog.cellsOf 2)) = some y2 := (hf 2 _ rfl).trans e2
    simp only [c_int64, c_int, c_bool, List.drop_zero, List.drop_succ_cons, List.take_succ_cons, List.take_zero] at h2
    obtain ⟨n2, hc2, -, w2⟩ := DataW.trod_int Try.underlying2 h2
    injection hc2 with hc2
    obtain ⟨y3, e3⟩ := some_of (l := xs) (i := 3) (by omega)
    have h3 : DataW.trod enc Try.prog w base spare held n 2 (([c0, c1, c2, c3, c4, c5, c6, c7, c8].drop 3).take (Try.prog.cellsOf 2)) = some y3 := (hf 3 _ rfl).trans e3
    simp only [c_int64, c_int, c_bool, List.drop_zero, List.drop_succ_cons, List.take_succ_cons, List.take_zero] at h3
    obtain ⟨n3, hc3, -, w3⟩ := DataW.trod_int Try.underlying2 h3
    injection hc3 with hc3
    obtain ⟨y4, e4⟩ := some_of (l := xs) (i := 4) (by omega)
    have h4 : DataW.trod enc Try.prog w base spare held n 2 (([c0, c1, c2, c3, c4, c5, c6, c7, c8].drop 4).take (Try.prog.cellsOf 2)) = some y4 := (hf 4 _ rfl).trans e4
    simp only [c_int64, c_int, c_bool, List.drop_zero, List.drop_succ_cons, List.take_succ_cons, List.take_zero] at h4
    obtain ⟨n4, hc4, -, w4⟩ := DataW.trod_int Try.underlying2 h4
    injection hc4 with hc4
    obtain ⟨y5, e5⟩ := some_of (l := xs) (i := 5) (by omega)
    have h5 : DataW.trod enc Try.prog w base spare held n 3 (([c0, c1, c2, c3, c4, c5, c6, c7, c8].drop 5).take (Try.prog.cellsOf 3)) = some y5 := (hf 5 _ rfl).trans e5
    simp only [c_int64, c_int, c_bool, List.drop_zero, List.drop_succ_cons, List.take_succ_cons, List.take_zero] at h5
    obtain ⟨n5, hc5, -, w5⟩ := DataW.trod_int Try.underlying3 h5
    injection hc5 with hc5
    obtain ⟨y6, e6⟩ := some_of (l := xs) (i := 6) (by omega)
    have h6 : DataW.trod enc Try.prog w base spare held n 3 (([c0, c1, c2, c3, c4, c5, c6, c7, c8].drop 6).take (Try.prog.cellsOf 3)) = some y6 := (hf 6 _ rfl).trans e6
    simp only [c_int64, c_int, c_bool, List.drop_zero, List.drop_succ_cons, List.take_succ_cons, List.take_zero] at h6
    obtain ⟨n6, hc6, -, w6⟩ := DataW.trod_int Try.underlying3 h6
    injection hc6 with hc6
    obtain ⟨y7, e7⟩ := some_of (l := xs) (i := 7) (by omega)
    have h7 : DataW.trod enc Try.prog w base spare held n 3 (([c0, c1, c2, c3, c4, c5, c6, c7, c8].drop 7).take (Try.prog.cellsOf 3)) = some y7 := (hf 7 _ rfl).trans e7
    simp only [c_int64, c_int, c_bool, List.drop_zero, List.drop_succ_cons, List.take_succ_cons, List.take_zero] at h7
    obtain ⟨n7, hc7, -, w7⟩ := DataW.trod_int Try.underlying3 h7
    injection hc7 with hc7
    obtain ⟨y8, e8⟩ := some_of (l := xs) (i := 8) (by omega)
    have h8 : DataW.trod enc Try.prog w base spare held n 2 (([c0, c1, c2, c3, c4, c5, c6, c7, c8].drop 8).take (Try.prog.cellsOf 2)) = some y8 := (hf 8 _ rfl).trans e8
    simp only [c_int64, c_int, c_bool, List.drop_zero, List.drop_succ_cons, List.take_succ_cons, List.take_zero] at h8
    obtain ⟨n8, hc8, -, w8⟩ := DataW.trod_int Try.underlying2 h8
    injection hc8 with hc8
    exact ⟨⟨n0, n1, n2, n3, n4, n5, n6, n7, n8⟩, by rw [hc0, hc1, hc2, hc3, hc4, hc5, hc6, hc7, hc8]; rfl, ok64_of w0, ok64_of w1, ok64_of w2, ok64_of w3, ok64_of w4, ok64_of w5, ok64_of w6, ok64_of w7, ok64_of w8⟩
theorem ca_vals (a : Ca) : a.c = a.v.map SV.raw := rfl
theorem al_raw {ρ : Env} : ∀ (vs : List Value), (∀ v ∈ vs, scal v = true) → Al2 (CS ρ) (vs.map SV.raw) vs
  | [], _ => trivial
  | v :: vs, h => ⟨by simp only [CS]; exact ⟨trivial, h v (by simp)⟩, al_raw vs fun u hu => h u (by simp [hu])⟩
theorem ms_raw {cb co : Nat} : ∀ (vs : List Value), (∀ v ∈ vs, scal v = true) → (∀ j v, vs[j]? = some v → w.cell? ⟨cb, co + j, none⟩ = some v) → MS (env0 w) cb co (vs.map SV.raw) := fun vs hs h => MS_of fun j sv hj => by
  rw [List.getElem?_map, Option.map_eq_some_iff] at hj
  obtain ⟨v, h1, rfl⟩ := hj
  exact ⟨v, h j v h1, by simp only [CS]; exact ⟨trivial, hs v (List.mem_of_getElem? h1)⟩, rfl⟩
theorem ar_scal (a : Ar) : ∀ v ∈ a.v, scal v = true := by intro v hv; simp only [Ar.v, List.mem_cons, List.not_mem_nil, or_false] at hv; rcases hv with h | h | h | h | h | h <;> subst h <;> rfl
theorem ca_scal (a : Ca) : ∀ v ∈ a.v, scal v = true := by intro v hv; simp only [Ca.v, List.mem_cons, List.not_mem_nil, or_false] at hv; rcases hv with h | h | h | h | h | h | h | h | h <;> subst h <;> rfl
theorem fl_vals (l : List Ar) : FL Ar.c l = (l.flatMap Ar.v).map SV.raw := by
  induction l with
  | nil => rfl
  | cons a l ih => rw [FL_cons, List.flatMap_cons, List.map_append, ih]; rfl
/-- an argument that is a list of areas -/
theorem open_areas {v : Value} {d : DataW H} {p : List MemPlace} {r : Reach} {b0 : Nat} (hv : Value.okWide Try.prog w r b0 22 v) (h : DataW.Trod enc Try.prog w base spare held 22 v d p) : ∃ l : List Ar, CC (env0 w) (.s (LV Ar.c l)) v ∧ ∀ a ∈ l, a.ok := by
  obtain ⟨va, vl, vc, rfl⟩ := okWide_slice Try.underlying22 hv
  obtain ⟨fuel, hf⟩ := h
  rcases open_slice Try.underlying22 hf with ⟨h1, -⟩ | ⟨a, len', cap', m, n, D, Pl, h1, hb, hl, hm, hmm, -, hi⟩
  · simp only [Value.cells, List.cons.injEq, Value.slice.injEq, and_true] at h1
    obtain ⟨rfl, rfl, rfl⟩ := h1
    exact ⟨[], by simp only [CC, CS]; exact ⟨none, 0, 0, 0, rfl, Nat.le_refl _, fun h => absurd rfl h, fun _ => rfl, by simp only [FL_nil, MS]⟩, by simp⟩
  · simp only [Value.cells, List.cons.injEq, Value.slice.injEq, and_true] at h1
    obtain ⟨rfl, rfl, rfl⟩ := h1
    have hlm : vl ≤ m := by rw [hmm]; split <;> omega
    rw [c_ar] at hi
    have key : ∀ i, i < vl → ∃ x : Ar, x.ok ∧ ∀ j u, x.v[j]? = some u → w.cell? (a.add (i * 6 + j)) = some u := by
      intro i hil
      obtain ⟨cs', hc, ht⟩ := hi i (by omega)
      obtain ⟨_, hcl, hat⟩ := World.cells?_some hc
      obtain ⟨x, rfl, hok⟩ := trod_ar ht
      refine ⟨x, hok, fun j u hj => ?_⟩
      have hj6 : j < 6 := (List.getElem?_eq_some_iff.1 hj).1
      rw [← Go.Deep.add_add, hat j hj6, hj]
    have hex : ∀ k, k ≤ vl → ∃ l : List Ar, l.length = k ∧ (∀ x ∈ l, x.ok) ∧ ∀ j u, (l.flatMap Ar.v)[j]? = some u → w.cell? (a.add j) = some u := by
      intro k
      induction k with
      | zero => intro _; exact ⟨[], rfl, by simp, by simp⟩
      | succ k ih =>
        intro hk
        obtain ⟨l, h1, h2, h3⟩ := ih (by omega)
        obtain ⟨x, h4, h5⟩ := key k (by omega)
        have hfl : (l.flatMap Ar.v).length = k * 6 := by
          have : ∀ l : List Ar, (l.flatMap Ar.v).length = l.length * 6 := by
            intro l
            induction l with
            | nil => rfl
            | cons a l ih => rw [List.flatMap_cons, List.length_append, ih, List.length_cons]; show 6 + _ = _; omega
          rw [this, h1]
        refine ⟨l ++ [x], by simp [h1], fun y hy => ?_, fun j u hj => ?_⟩
        · rcases List.mem_append.1 hy with hy | hy
          · exact h2 y hy
          · simp at hy; subst hy; exact h4
        · rw [List.flatMap_append, List.flatMap_cons, List.flatMap_nil, List.append_nil] at hj
          rcases Nat.lt_or_ge j (k * 6) with hlt | hge
          · rw [List.getElem?_append_left (by omega)] at hj; exact h3 j u hj
          · rw [List.getElem?_append_right (by omega), hfl] at hj
            have := h5 _ u hj
            rwa [show k * 6 + (j - k * 6) = j by omega] at this
    obtain ⟨l, h1, h2, h3⟩ := hex vl (Nat.le_refl _)
    refine ⟨l, ?_, h2⟩
    obtain ⟨ab, ao, asp⟩ := a
    cases l with
    | nil =>
      simp only [CC, CS]
      exact ⟨some ⟨ab, ao, asp⟩, vc, ab, ao, by rw [h1], by omega, fun hne => absurd rfl hne, (fun h => nomatch h), by simp only [FL_nil, MS]⟩
    | cons x l =>
      obtain rfl : asp = none := by
        have := h3 0 (.int .i64 x.s) rfl
        cases asp with
        | none => rfl
        | some q =>
          simp only [World.cell?, Addr.add] at this
          split at this <;> simp at this
      simp only [CC, CS]
      refine ⟨some ⟨ab, ao, none⟩, vc, ab, ao, by rw [h1], by omega, fun hne => rfl, (fun h => nomatch h), ?_⟩
      rw [fl_vals]
      refine ms_raw _ (fun v hv => ?_) fun j u hj => ?_
      · obtain ⟨x, _, hx⟩ := List.mem_flatMap.1 hv; exact ar_scal x v hx
      · have := h3 j u hj
        rw [Addr.add_lit] at this; exact this
theorem okWide_arr {P : Program} {t : TypeId} {r : Reach} {b0 n : Nat} {e : TypeId} {v : Value} (ht : P.underlying t = some (.array n e)) (h : Value.okWide P w r b0 t v) : ∃ cs, v = .agg cs ∧ cs.size = P.cellsOf t := by
  simp only [Value.okWide, ht] at h
  obtain ⟨cs, h1, h2, _⟩ := h
  exact ⟨cs, h1, h2⟩
/-- an argument that is a call -/
theorem open_call {v : Value} {d : DataW H} {p : List MemPlace} {r : Reach} {b0 : Nat} (hv : Value.okWide Try.prog w r b0 34 v) (h : DataW.Trod enc Try.prog w base spare held 34 v d p) : ∃ c : Ca, CC (env0 w) (.agg c.c) v ∧ c.ok := by
  obtain ⟨cs, rfl, hsz⟩ := okWide_struct Try.underlying34 hv
  obtain ⟨fuel, hf⟩ := h
  obtain ⟨c, hc, hok⟩ := trod_ca hf
  have hc : cs.toList = c.v := hc
  refine ⟨c, ⟨c.v, ?_, by rw [← hc]⟩, hok⟩
  rw [ca_vals]; exact al_raw _ (ca_scal c)
theorem open_u8 {v : Value} {d : DataW H} {p : List MemPlace} {r : Reach} {b0 : Nat} (hv : Value.okWide Try.prog w r b0 5 v) (h : DataW.Trod enc Try.prog w base spare held 5 v d p) : ∃ n : Int, CC (env0 w) (.s (.raw (.int .u8 n))) v ∧ 0 ≤ n ∧ n < 256 := by
  obtain ⟨n, rfl, -, -, hw⟩ := open_int Try.underlying5 hv h
  refine ⟨n, by simp only [CC, CS]; exact ⟨trivial, rfl⟩, ?_⟩
  have := bounds_u8 hw
  omega
theorem open_arr4 {v : Value} {d : DataW H} {p : List MemPlace} {r : Reach} {b0 : Nat} (hv : Value.okWide Try.prog w r b0 23 v) (h : DataW.Trod enc Try.prog w base spare held 23 v d p) :
    ∃ b : Int × Int × Int × Int, CC (env0 w) (.agg [.raw (.int .u8 b.1), .raw (.int .u8 b.2.1), .raw (.int .u8 b.2.2.1), .raw (.int .u8 b.2.2.2)]) v ∧ (0 ≤ b.1 ∧ b.1 < 256) ∧ (0 ≤ b.2.1 ∧ b.2.1 < 256) ∧ (0 ≤ b.2.2.1 ∧ b.2.2.1 < 256) ∧ (0 ≤ b.2.2.2 ∧ b.2.2.2 < 256) := by
  obtain ⟨cs, rfl, hsz⟩ := okWide_arr Try.underlying23 hv
  obtain ⟨fuel, hf⟩ := h
  obtain ⟨xs, m, -, -, hl, hx, hg⟩ := DataW.trod_array Try.underlying23 hf
  have hC : Try.prog.cellsOf 23 = 4 := by kernel_rfl
  have hc : Try.prog.cellsOf 5 = 1 := by kernel_rfl
  rw [hC] at hl
  rw [hc] at hg
  have hl : cs.toList.length = 4 := hl
  obtain ⟨l⟩ := cs
  simp only [Value.cells] at hg hl
  match l, hl with
  | [c0, c1, c2, c3], _ =>
    obtain ⟨y0, e0⟩ := some_of (l := xs) (i := 0) (by omega)
    obtain ⟨y1, e1⟩ := some_of (l := xs) (i := 1) (by omega)
    obtain ⟨y2, e2⟩ := some_of (l := xs) (i := 2) (by omega)
    obtain ⟨y3, e3⟩ := some_of (l := xs) (i := 3) (by omega)
    obtain ⟨n0, h0, -, w0⟩ := DataW.trod_int Try.underlying5 ((hg 0 (by omega)).trans e0)
    obtain ⟨n1, h1, -, w1⟩ := DataW.trod_int Try.underlying5 ((hg 1 (by omega)).trans e1)
    obtain ⟨n2, h2, -, w2⟩ := DataW.trod_int Try.underlying5 ((hg 2 (by omega)).trans e2)
    obtain ⟨n3, h3, -, w3⟩ := DataW.trod_int Try.underlying5 ((hg 3 (by omega)).trans e3)
    injection h0 with h0; injection h1 with h1; injection h2 with h2; injection h3 with h3
    have b0 := bounds_u8 w0; have b1 := bounds_u8 w1; have b2 := bounds_u8 w2; have b3 := bounds_u8 w3
    subst h0 h1 h2 h3
    exact ⟨(n0, n1, n2, n3), ⟨[.int .u8 n0, .int .u8 n1, .int .u8 n2, .int .u8 n3], al_raw [.int .u8 n0, .int .u8 n1, .int .u8 n2, .int .u8 n3] (by simp [scal]), rfl⟩, (by show 0 ≤ n0 ∧ n0 < 256; omega), (by show 0 ≤ n1 ∧ n1 < 256; omega), (by show 0 ≤ n2 ∧ n2 < 256; omega), (by show 0 ≤ n3 ∧ n3 < 256; omega)⟩
theorem open_i64 {v : Value} {d : DataW H} {p : List MemPlace} {r : Reach} {b0 : Nat} (hv : Value.okWide Try.prog w r b0 3 v) (h : DataW.Trod enc Try.prog w base spare held 3 v d p) : ∃ n : Int, CC (env0 w) (.s (I n)) v ∧ ok64 n := by
  obtain ⟨n, rfl, -, -, hw⟩ := open_int Try.underlying3 hv h
  exact ⟨n, by simp only [CC, CS]; exact ⟨trivial, rfl⟩, ok64_of hw⟩
end
end Go.Abs
/-
  Arguments that read as data, more of them: two numbers.
-/
namespace Go.Abs
set_option linter.unusedVariables false
set_option linter.unusedSimpArgs false
open Go.Proofs Go.ChangeShapes Go.WideShapes Go.Deep Go.RowKit
set_option maxRecDepth 100000
section
variable {H : Type} {enc : TypeId × Value → H} {w : World} {base : Nat} {spare : Nat → Bool} {held : Bool}
theorem open_arr2 {v : Value} {d : DataW H} {p : List MemPlace} {r : Reach} {b0 : Nat} (hv : Value.okWide Try.prog w r b0 43 v) (h : DataW.Trod enc Try.prog w base spare held 43 v d p) :
    ∃ b : Int × Int, CC (env0 w) (.agg [I b.1, I b.2]) v ∧ ok64 b.1 ∧ ok64 b.2 := by
  obtain ⟨cs, rfl, hsz⟩ := okWide_arr Try.underlying43 hv
  obtain ⟨fuel, hf⟩ := h
  obtain ⟨xs, m, -, -, hl, hx, hg⟩ := DataW.trod_array Try.underlying43 hf
  have hC : Try.prog.cellsOf 43 = 2 := by kernel_rfl
  have hc : Try.prog.cellsOf 2 = 1 := by kernel_rfl
  rw [hC] at hl
  rw [hc] at hg
  have hl : cs.toList.length = 2 := hl
  obtain ⟨l⟩ := cs
  simp only [Value.cells] at hg hl
  match l, hl with
  | [c0, c1], _ =>
    obtain ⟨y0, e0⟩ := some_of (l := xs) (i := 0) (by omega)
    obtain ⟨y1, e1⟩ := some_of (l := xs) (i := 1) (by omega)
    obtain ⟨n0, h0, -, w0⟩ := DataW.trod_int Try.underlying2 ((hg 0 (by omega)).trans e0)
    obtain ⟨n1, h1, -, w1⟩ := DataW.trod_int Try.underlying2 ((hg 1 (by omega)).trans e1)
    injection h0 with h0; injection h1 with h1
    have b0 := ok64_of w0; have b1 := ok64_of w1
    subst h0 h1
    exact ⟨(n0, n1), ⟨[.int .i64 n0, .int .i64 n1], al_raw [.int .i64 n0, .int .i64 n1] (by simp [scal]), rfl⟩, b0, b1⟩
end
end Go.Abs
