/-
  Right lists, and their pages: two right lists with the same pages are the same.
-/
import Derived.Test.YtcgogenmikakkaaP2
namespace Go.Abs
set_option linter.unusedVariables false
set_option linter.unusedSimpArgs false

def srt : List Ar → Prop
  | [] => True
  | a :: l => formed a = true ∧ (∀ b ∈ l, phi a ≤ plo b) ∧ srt l
def nog (l : List Ar) : Prop := ∀ x ∈ l, ∀ y ∈ l, goes x y = false
def inP (p : Nat) (a : Ar) : Bool := decide (plo a ≤ p ∧ p < phi a)
def pgs (l : List Ar) (p : Nat) : Option At := (l.find? (inP p)).map fun a => pattr a p

theorem goes_iff {a b : Ar} (ha : formed a = true) (hb : formed b = true) : goes a b = true ↔ phi a = plo b ∧ a.p = b.p ∧ a.sh = b.sh ∧ a.b = b.b ∧ (a.b ≠ 0 → b.o = a.o + (a.e - a.s)) := by
  obtain ⟨a1, a2, a3, a4, a5⟩ := formed_pages ha
  obtain ⟨b1, b2, b3, b4, b5⟩ := formed_pages hb
  obtain ⟨f1, f2, f3, f4, f5, f6, f7, f8, f9, f10, f11, f12, f13⟩ := (formed_iff a).1 ha
  obtain ⟨g1, g2, g3, g4, g5, g6, g7, g8, g9, g10, g11, g12, g13⟩ := (formed_iff b).1 hb
  have hw : IntKind.i64.wrap (IntKind.i64.wrap (a.o + a.e) - a.s) = a.o + (a.e - a.s) := by
    rw [wrap_id (n := a.o + a.e) (by omega) (by omega), wrap_id (by omega) (by omega)]; omega
  unfold goes aoff
  simp only [ha, hb, Bool.true_and, Bool.and_eq_true, beq_iff_eq, wr, hw]
  constructor
  · rintro ⟨⟨⟨⟨h1, h2⟩, h3⟩, h4⟩, h5⟩
    refine ⟨by omega, h2, h3, h4, fun h0 => ?_⟩
    rw [if_neg h0] at h5; exact h5
  · rintro ⟨h1, h2, h3, h4, h5⟩
    refine ⟨⟨⟨⟨by omega, h2⟩, h3⟩, h4⟩, ?_⟩
    by_cases h0 : a.b = 0
    · rw [if_pos h0]; exact g10 (by omega)
    · rw [if_neg h0]; exact h5 h0

theorem srt_formed : ∀ {l : List Ar}, srt l → ∀ a ∈ l, formed a = true
  | b :: l, h, a, ha => by
    rcases List.mem_cons.1 ha with rfl | ha
    · exact h.1
    · exact srt_formed h.2.2 a ha
theorem srt_tail {a : Ar} {l : List Ar} (h : srt (a :: l)) : srt l := h.2.2
theorem nog_tail {a : Ar} {l : List Ar} (h : nog (a :: l)) : nog l := fun x hx y hy => h x (List.mem_cons_of_mem _ hx) y (List.mem_cons_of_mem _ hy)

/-- right, in plain words -/
theorem rightFrom_iff : ∀ (l : List Ar) (p : Option Ar), (∀ a, p = some a → formed a = true) → (rightFrom p l = true ↔ srt l ∧ nog l ∧ ∀ a, p = some a → ∀ b, l.head? = some b → phi a ≤ plo b ∧ goes a b = false)
  | [], p, _ => by
    simp only [rightFrom, srt, nog, List.head?_nil, true_iff]
    exact ⟨trivial, fun x hx => by simp at hx, fun a _ b h => by cases h⟩
  | b :: l, p, hp => by
    have key : rightFrom p (b :: l) = true ↔ formed b = true ∧ (∀ a, p = some a → ¬ a.e > b.s ∧ goes a b = false) ∧ rightFrom (some b) l = true := by
      cases p with
      | none => simp [rightFrom]
      | some a => simp [rightFrom, and_assoc]
    rw [key]
    constructor
    · rintro ⟨h1, h2, h3⟩
      obtain ⟨k1, k2, k3⟩ := (rightFrom_iff l (some b) (fun a e => by injection e with e; subst e; exact h1)).1 h3
      have hb := formed_pages h1
      have hall : ∀ c ∈ l, phi b ≤ plo c := by
        cases l with
        | nil => intro c hc; simp at hc
        | cons d l =>
          intro c hc
          have hd := k3 b rfl d rfl
          have hfd := formed_pages k1.1
          rcases List.mem_cons.1 hc with rfl | hc
          · exact hd.1
          · have := k1.2.1 c hc; omega
      refine ⟨⟨h1, hall, k1⟩, ?_, fun a ha c hc => ?_⟩
      · intro x hx y hy
        rcases List.mem_cons.1 hx with ex | hx <;> rcases List.mem_cons.1 hy with ey | hy
        · rw [ex, ey]
          cases hg : goes b b with
          | false => rfl
          | true => have := ((goes_iff h1 h1).1 hg).1; omega
        · rw [ex]
          cases hg : goes b y with
          | false => rfl
          | true =>
            exfalso
            have hfy := srt_formed k1 y hy
            have he := ((goes_iff h1 hfy).1 hg).1
            cases l with
            | nil => simp at hy
            | cons d l =>
              have hd := k3 b rfl d rfl
              rcases List.mem_cons.1 hy with ey | hy
              · rw [ey, hd.2] at hg; cases hg
              · have h5 := k1.2.1 y hy
                have h6 := formed_pages k1.1
                omega
        · rw [ey]
          cases hg : goes x b with
          | false => rfl
          | true =>
            exfalso
            have hfx := srt_formed k1 x hx
            have he := ((goes_iff hfx h1).1 hg).1
            have := hall x hx
            have h6 := formed_pages hfx
            omega
        · exact k2 x hx y hy
      · injection hc with hc; subst hc
        obtain ⟨g1, g2⟩ := h2 a ha
        have hfa := formed_pages (hp a ha)
        exact ⟨by omega, g2⟩
    · rintro ⟨h1, h2, h3⟩
      refine ⟨h1.1, fun a ha => ?_, (rightFrom_iff l (some b) (fun a e => by injection e with e; subst e; exact h1.1)).2 ⟨h1.2.2, nog_tail h2, fun a ha c hc => ?_⟩⟩
      · obtain ⟨g1, g2⟩ := h3 a ha b rfl
        have hfa := formed_pages (hp a ha)
        have hfb := formed_pages h1.1
        exact ⟨by omega, g2⟩
      · injection ha with ha; subst ha
        have hc' : c ∈ l := List.mem_of_mem_head? hc
        exact ⟨h1.2.1 c hc', h2 b (List.mem_cons_self ..) c (List.mem_cons_of_mem _ hc')⟩
theorem right_iff (l : List Ar) : right l = true ↔ srt l ∧ nog l := by
  rw [right, rightFrom_iff l none (fun a h => by cases h)]
  exact ⟨fun h => ⟨h.1, h.2.1⟩, fun h => ⟨h.1, h.2, fun a h => by cases h⟩⟩

theorem pgs_nil (p : Nat) : pgs [] p = none := rfl
theorem pgs_cons (a : Ar) (l : List Ar) (p : Nat) : pgs (a :: l) p = if plo a ≤ p ∧ p < phi a then some (pattr a p) else pgs l p := by
  unfold pgs
  by_cases h : plo a ≤ p ∧ p < phi a
  · rw [if_pos h, List.find?_cons_of_pos (by simpa [inP] using h)]; rfl
  · rw [if_neg h, List.find?_cons_of_neg (by simpa [inP] using h)]
theorem pgs_none {l : List Ar} {p : Nat} (h : ∀ a ∈ l, ¬ (plo a ≤ p ∧ p < phi a)) : pgs l p = none := by
  unfold pgs
  rw [List.find?_eq_none.2 (fun a ha => by simpa [inP] using h a ha)]; rfl
theorem pgs_some {l : List Ar} {p : Nat} {t : At} (h : pgs l p = some t) : ∃ a ∈ l, plo a ≤ p ∧ p < phi a ∧ pattr a p = t := by
  unfold pgs at h
  cases hf : l.find? (inP p) with
  | none => rw [hf] at h; cases h
  | some a =>
    rw [hf] at h
    injection h with h
    have h1 := List.find?_some hf
    exact ⟨a, List.mem_of_find?_eq_some hf, (by simpa [inP] using h1 : plo a ≤ p ∧ p < phi a).1, (by simpa [inP] using h1 : plo a ≤ p ∧ p < phi a).2, h⟩
theorem pgs_mem : ∀ {l : List Ar}, srt l → ∀ {a : Ar}, a ∈ l → ∀ {p : Nat}, plo a ≤ p → p < phi a → pgs l p = some (pattr a p)
  | b :: l, hs, a, ha, p, h1, h2 => by
    rw [pgs_cons]
    rcases List.mem_cons.1 ha with rfl | ha
    · rw [if_pos ⟨h1, h2⟩]
    · have := hs.2.1 a ha
      rw [if_neg (by omega)]
      exact pgs_mem hs.2.2 ha h1 h2

theorem pattr_eq {a b : Ar} {p : Nat} (h : pattr a p = pattr b p) : a.p = b.p ∧ a.sh = b.sh ∧ a.b = b.b ∧ (a.b > 0 → a.o + (4096 * (p : Int) - a.s) = b.o + (4096 * (p : Int) - b.s)) := by
  unfold pattr at h
  simp only [At.mk.injEq] at h
  obtain ⟨h1, h2, h3, h4⟩ := h
  refine ⟨h1, h2, h3, fun h5 => ?_⟩
  rw [if_pos h5, if_pos (by omega)] at h4
  exact h4

theorem head_le {a b : Ar} {l m : List Ar} (ha : srt (a :: l)) (na : nog (a :: l)) (hb : srt (b :: m)) (hlo : plo a = plo b) (hp : ∀ p, pgs (a :: l) p = pgs (b :: m) p) : phi b ≤ phi a := by
  rcases Nat.lt_or_ge (phi a) (phi b) with hlt | hge
  · exfalso
    have fa := formed_pages ha.1
    have fb := formed_pages hb.1
    have h1 : pgs (b :: m) (phi a) = some (pattr b (phi a)) := pgs_mem hb (List.mem_cons_self ..) (by omega) hlt
    rw [← hp, pgs_cons, if_neg (by omega)] at h1
    obtain ⟨c, hc, c1, c2, c3⟩ := pgs_some h1
    have hac := ha.2.1 c hc
    have fc := srt_formed ha.2.2 c hc
    have fc' := formed_pages fc
    have h2 : pgs (b :: m) (phi a - 1) = some (pattr b (phi a - 1)) := pgs_mem hb (List.mem_cons_self ..) (by omega) (by omega)
    rw [← hp, pgs_cons, if_pos (by omega)] at h2
    injection h2 with h2
    obtain ⟨d1, d2, d3, d4⟩ := pattr_eq c3
    obtain ⟨e1, e2, e3, e4⟩ := pattr_eq h2
    have hg : goes a c = true := by
      refine (goes_iff ha.1 fc).2 ⟨by omega, by omega, by rw [e2, d2], by omega, fun h0 => ?_⟩
      have ba := ((formed_iff a).1 ha.1).2.2.2.2.2.2.2.1
      have := e4 (by omega)
      have := d4 (by omega)
      omega
    have := na a (List.mem_cons_self ..) c (List.mem_cons_of_mem _ hc)
    rw [hg] at this; cases this
  · exact hge

/-- **Right lists with the same pages are the same.** -/
theorem ext_pgs : ∀ {l m : List Ar}, srt l → nog l → srt m → nog m → (∀ p, pgs l p = pgs m p) → l = m
  | [], [], _, _, _, _, _ => rfl
  | [], b :: m, _, _, hm, _, hp => by
    have fb := formed_pages hm.1
    have := pgs_mem hm (List.mem_cons_self ..) (Nat.le_refl (plo b)) fb.2.1
    rw [← hp] at this; cases this
  | a :: l, [], hl, _, _, _, hp => by
    have fa := formed_pages hl.1
    have := pgs_mem hl (List.mem_cons_self ..) (Nat.le_refl (plo a)) fa.2.1
    rw [hp] at this; cases this
  | a :: l, b :: m, hl, nl, hm, nm, hp => by
    have fa := formed_pages hl.1
    have fb := formed_pages hm.1
    have low : ∀ {a b : Ar} {l m : List Ar}, srt (a :: l) → srt (b :: m) → (∀ p, pgs (a :: l) p = pgs (b :: m) p) → plo b ≤ plo a := by
      intro a b l m hl hm hp
      have fa := formed_pages hl.1
      have fb := formed_pages hm.1
      have := pgs_mem hl (List.mem_cons_self ..) (Nat.le_refl (plo a)) fa.2.1
      rw [hp] at this
      obtain ⟨c, hc, c1, c2, _⟩ := pgs_some this
      rcases List.mem_cons.1 hc with rfl | hc
      · exact c1
      · have := hm.2.1 c hc; omega
    have hlo : plo a = plo b := Nat.le_antisymm (low hm hl fun p => (hp p).symm) (low hl hm hp)
    have hhi : phi a = phi b := Nat.le_antisymm (head_le hm nm hl hlo.symm fun p => (hp p).symm) (head_le hl nl hm hlo hp)
    have hab : a = b := by
      have h1 := pgs_mem hl (List.mem_cons_self ..) (Nat.le_refl (plo a)) fa.2.1
      rw [hp, pgs_mem hm (List.mem_cons_self ..) (by omega) (by omega)] at h1
      injection h1 with h1
      obtain ⟨e1, e2, e3, e4⟩ := pattr_eq h1
      have ga := (formed_iff a).1 hl.1
      have gb := (formed_iff b).1 hm.1
      have ho : a.o = b.o := by
        by_cases h0 : a.b = 0
        · rw [ga.2.2.2.2.2.2.2.2.2.1 h0, gb.2.2.2.2.2.2.2.2.2.1 (by omega)]
        · have := e4 (by omega); omega
      cases a; cases b
      simp only [Ar.mk.injEq]
      simp only at fa fb e1 e2 e3 ho hlo hhi
      refine ⟨by omega, by omega, e1.symm, e2.symm, e3.symm, ho⟩
    subst hab
    congr 1
    refine ext_pgs hl.2.2 (nog_tail nl) hm.2.2 (nog_tail nm) fun p => ?_
    by_cases h : plo a ≤ p ∧ p < phi a
    · rw [pgs_none fun c hc => by have := hl.2.1 c hc; omega, pgs_none fun c hc => by have := hm.2.1 c hc; omega]
    · have := hp p
      rw [pgs_cons, pgs_cons, if_neg h, if_neg h] at this
      exact this
end Go.Abs
