/-
  append on the abstract heap: the slice that is appended to is given up for a new one.
-/
import Derived.Test.YtcgogenmikakkaaAbs2
import Derived.Laws.AppendOwn
namespace Go.Abs
set_option linter.unusedVariables false
set_option linter.unusedSimpArgs false
open Go.RowKit

theorem Rel.kill {B : Nat} {ρ : Env} {H : Heap} {w : World} (h : Rel B ρ H w) {b : Nat} (hb : ρ b ≠ .absent) :
    Rel B (ρ.put b .dead) (H.set b none) w ∧ Step ρ H w (ρ.put b .dead) (H.set b none) w := by
  have hlt := h.lt hb
  have hle : Le ρ (ρ.put b .dead) := ⟨fun k => by
    by_cases e : k = b
    · subst e; exact .inr (.inr (Env.put_same _ _ _))
    · exact .inr (.inl (Env.put_ne _ _ e)), fun _ _ _ h => h⟩
  have hold : ∀ b' cb co cc, (ρ.put b .dead) b' = .at_ cb co cc → b' ≠ b ∧ ρ b' = .at_ cb co cc := fun b' cb co cc hh => by
    by_cases e : b' = b
    · subst e; rw [Env.put_same] at hh; cases hh
    · rw [Env.put_ne _ _ e] at hh; exact ⟨e, hh⟩
  have hm : ∀ b' x, (H.set b none).m b' = some x → b' ≠ b ∧ H.m b' = some x := fun b' x hh => by
    by_cases e : b' = b
    · subst e; rw [Heap.set_same] at hh; cases hh
    · rw [Heap.set_ne _ _ _ e] at hh; exact ⟨e, hh⟩
  refine h.with ⟨⟨h.hB, ?_, ?_, ?_, ?_⟩, ⟨rfl, rfl, rfl, Nat.le_refl _, fun _ _ _ => rfl, ?_, hle, ?_, Nat.le_refl _, fun b' hb' ha => by
    by_cases e : b' = b
    · subst e; exact absurd ha hb
    · rw [Env.put_ne _ _ e]; exact ha, fun _ _ _ h => .inl h⟩⟩
  · intro b' hb'
    simp only [Heap.set_n] at hb'
    rw [Env.put_ne _ _ (by omega)]
    exact h.fresh b' hb'
  · intro b' x hx
    obtain ⟨e, hx'⟩ := hm b' x hx
    rw [Env.put_ne _ _ e]; exact h.live b' x hx'
  · intro b' cb co cc x g1 g2
    obtain ⟨_, g1'⟩ := hold _ _ _ _ g1
    obtain ⟨_, g2'⟩ := hm _ _ g2
    exact (h.blk b' cb co cc x g1' g2').mono hle rfl
  · intro b1 b2 k co1 cc1 co2 cc2 x1 x2 hne g1 g2 g3 g4
    exact h.sep b1 b2 k co1 cc1 co2 cc2 x1 x2 hne (hold _ _ _ _ g1).2 (hold _ _ _ _ g2).2 (hm _ _ g3).2 (hm _ _ g4).2
  · rintro k ⟨b', co, cc, x, g1, g2, g3⟩
    exact .inl ⟨b', co, cc, x, (hold _ _ _ _ g1).2, (hm _ _ g2).2, g3⟩
  · intro b' cb co cc g1 g2
    rw [(hold _ _ _ _ g2).2] at g1; cases g1

/-- The block goes on under a new number. -/
theorem Rel.moved {B : Nat} {ρ : Env} {H : Heap} {w : World} (h : Rel B ρ H w) {b cb co cc : Nat} {x : Blk} (hb : ρ b = .at_ cb co cc) (hx : H.m b = some x) (hw : x.wr = true) :
    Rel B ((ρ.put b .dead).put H.n (.at_ cb co cc)) ((H.set b none).push x) w ∧ Step ρ H w ((ρ.put b .dead).put H.n (.at_ cb co cc)) ((H.set b none).push x) w := by
  obtain ⟨h1, s1⟩ := h.kill (b := b) (by rw [hb]; simp)
  have hlt := h.lt (b := b) (by rw [hb]; simp)
  have habs : (ρ.put b .dead) H.n = .absent := by rw [Env.put_ne _ _ (by omega)]; exact h.fresh _ (Nat.le_refl _)
  have hle : Le (ρ.put b .dead) ((ρ.put b .dead).put H.n (.at_ cb co cc)) := Le.put _ habs
  have hblk := (h.blk b cb co cc x hb hx).mono (s1.le.trans hle) rfl
  have nocb : ∀ b' co' cc' x', (ρ.put b .dead) b' = .at_ cb co' cc' → (H.set b none).m b' = some x' → False := fun b' co' cc' x' g1 g2 => by
    by_cases e : b' = b
    · subst e; rw [Env.put_same] at g1; cases g1
    · rw [Env.put_ne _ _ e] at g1; rw [Heap.set_ne _ _ _ e] at g2
      have := (h.sep b' b cb co' cc' co cc x' x e g1 hb g2 hx).2
      rw [hw] at this; cases this
  have hn : (H.set b none).n = H.n := rfl
  refine h.with ⟨⟨h.hB, ?_, ?_, ?_, ?_⟩, ⟨rfl, rfl, rfl, Nat.le_refl _, fun _ _ _ => rfl, ?_, s1.le.trans hle, ?_, by simp, fun b' hb' ha => by
    rw [Env.put_ne _ _ (by omega)]; exact s1.abs b' hb' ha, fun _ _ _ h => .inl h⟩⟩
  · intro b' hb'
    simp only [Heap.push_n, Heap.set_n] at hb'
    rw [Env.put_ne _ _ (by omega)]
    exact h1.fresh b' (by simp; omega)
  · intro b' y hy
    by_cases e : b' = H.n
    · subst e; simp
    · rw [Heap.push_ne _ _ (by simpa using e)] at hy; rw [Env.put_ne _ _ e]; exact h1.live b' y hy
  · intro b' cb' co' cc' y g1 g2
    by_cases e : b' = H.n
    · subst e
      rw [Env.put_same] at g1; cases g1
      have : (Heap.push (H.set b none) x).m H.n = some x := Heap.push_same (H.set b none) x
      rw [this] at g2; cases g2
      exact hblk
    · rw [Heap.push_ne _ _ (by simpa using e)] at g2; rw [Env.put_ne _ _ e] at g1
      exact (h1.blk b' cb' co' cc' y g1 g2).mono hle rfl
  · intro b1 b2 k co1 cc1 co2 cc2 x1 x2 hne g1 g2 g3 g4
    by_cases e : b1 = H.n
    · subst e
      rw [Env.put_same] at g1; cases g1
      rw [Env.put_ne _ _ (Ne.symm hne)] at g2
      rw [Heap.push_ne _ _ (by simpa using Ne.symm hne)] at g4
      exact (nocb _ _ _ _ g2 g4).elim
    · rw [Env.put_ne _ _ e] at g1
      rw [Heap.push_ne _ _ (by simpa using e)] at g3
      by_cases e' : b2 = H.n
      · subst e'
        rw [Env.put_same] at g2; cases g2
        exact (nocb _ _ _ _ g1 g3).elim
      · rw [Env.put_ne _ _ e'] at g2
        rw [Heap.push_ne _ _ (by simpa using e')] at g4
        exact h1.sep b1 b2 k co1 cc1 co2 cc2 x1 x2 hne g1 g2 g3 g4
  · rintro k ⟨b', co', cc', y, g1, g2, g3⟩
    by_cases e : b' = H.n
    · subst e; rw [Env.put_same] at g1; cases g1; exact .inl ⟨b, co, cc, x, hb, hx, hw⟩
    · rw [Env.put_ne _ _ e] at g1; rw [Heap.push_ne _ _ (by simpa using e)] at g2
      exact s1.own k ⟨b', co', cc', y, g1, g2, g3⟩
  · intro b' cb' co' cc' g1 g2
    by_cases e : b' = H.n
    · subst e; rw [Env.put_same] at g2; cases g2; exact .inl ⟨b, co, cc, x, hb, hx, hw⟩
    · rw [Env.put_ne _ _ e] at g2; exact s1.new b' cb' co' cc' g1 g2

/-- A block is written no more: its cells are memory that does not change. -/
theorem Rel.freeze {B : Nat} {ρ : Env} {H : Heap} {w : World} (h : Rel B ρ H w) {b cb co cc : Nat} {x : Blk} (hb : ρ b = .at_ cb co cc) (hx : H.m b = some x) (hw : x.wr = true) (hp : ∀ sv ∈ x.cells, pers sv = true) :
    ∃ ρ', Rel B ρ' (H.set b none) w ∧ Step ρ H w ρ' (H.set b none) w ∧ MS ρ' cb co x.cells := by
  obtain ⟨C, T, fz, hC1, hC2, hC3, hC4⟩ := h.blk b cb co cc x hb hx
  have hown : Own ρ H cb := ⟨b, co, cc, x, hb, hx, hw⟩
  have hno : ∀ j v, ρ.mem cb j ≠ some v := fun j v hm => (h.imm cb j v hm).2 hown
  obtain ⟨h1, s1⟩ := h.kill (b := b) (by rw [hb]; simp)
  let m' : Nat → Nat → Option Value := fun cb' j => if cb' = cb then C[j]? else ρ.mem cb' j
  have hm : ∀ cb' j v, ρ.mem cb' j = some v → m' cb' j = some v := fun cb' j v hv => by
    by_cases e : cb' = cb
    · subst e; exact absurd hv (hno j v)
    · simp only [m', e, if_false]; exact hv
  have hle : Le (ρ.put b .dead) { (ρ.put b .dead) with mem := m' } := ⟨fun _ => .inr (.inl rfl), hm⟩
  have nocb : ¬ Own (ρ.put b .dead) (H.set b none) cb := by
    rintro ⟨b', co', cc', x', g1, g2, g3⟩
    by_cases e : b' = b
    · subst e; rw [Env.put_same] at g1; cases g1
    · rw [Env.put_ne _ _ e] at g1; rw [Heap.set_ne _ _ _ e] at g2
      have := (h.sep b' b cb co' cc' co cc x' x e g1 hb g2 hx).2
      rw [hw] at this; cases this
  refine ⟨{ (ρ.put b .dead) with mem := m' }, ⟨⟨h1.hB, h1.fresh, h1.live, fun b' cb' co' cc' x' g1 g2 => (h1.blk b' cb' co' cc' x' g1 g2).mono hle rfl, h1.sep⟩, ?_⟩,
    ⟨s1.os, s1.tape, s1.output, s1.size, s1.keep, s1.own, s1.le.trans hle, s1.new, s1.n, s1.abs, fun cb' j v hv => ?_⟩, MS_of fun j sv hj => ?_⟩
  · intro cb' j v hv
    by_cases e : cb' = cb
    · subst e
      refine ⟨?_, nocb⟩
      simp only [m', if_true] at hv
      simp [World.cell?, hC1, hv]
    · simp only [m', e, if_false] at hv
      exact h1.imm cb' j v hv
  · by_cases e : cb' = cb
    · subst e; exact .inr (.inl hown)
    · simp only [m', e, if_false] at hv; exact .inl hv
  · obtain ⟨v, h2, h3⟩ := hC2 j sv hj
    exact ⟨v, by simp only [m', if_true]; exact h2, pers_mono hm (hp sv (List.mem_of_getElem? hj)) h3, hp sv (List.mem_of_getElem? hj)⟩

/-- Cells stored right behind the window. -/
theorem Rel.extendMany {P : Program} {B : Nat} {ρ : Env} (b cb co cc : Nat) (hb : ρ b = .at_ cb co cc) : ∀ (svs : List SV) (vs : List Value) (H : Heap) (w : World) (x : Blk) (i base : Nat), Rel B ρ H w → H.m b = some x → x.wr = true →
    base + i = co + x.cells.length → (∀ j, j < svs.length → (w.cell? ⟨cb, base + i + j, none⟩).isSome = true) → Al2 (CS ρ) svs vs →
    ∃ w', (storeCells ⟨cb, base, none⟩ vs i).run P w = .ok () w' ∧ Rel B ρ (H.set b (some { x with cells := x.cells ++ svs })) w' ∧
      Step ρ H w ρ (H.set b (some { x with cells := x.cells ++ svs })) w'
  | [], [], H, w, x, i, base, h, hx, hw, hl, hc, _ => by
    have e : H.set b (some { x with cells := x.cells ++ [] }) = H := Heap.set_self H (by simpa using hx)
    rw [e]
    exact ⟨w, by simp [storeCells], h, Step.refl _ _ _⟩
  | sv :: svs, v :: vs, H, w, x, i, base, h, hx, hw, hl, hc, hv => by
    obtain ⟨u, hu⟩ := Option.isSome_iff_exists.1 (hc 0 (by simp))
    have hu' : w.cell? ⟨cb, co + x.cells.length, none⟩ = some u := by rw [← hl]; simpa using hu
    obtain ⟨w1, h1, h2, h3, hcc⟩ := h.set1g (P := P) hb hx hw hu' hv.1 (x.cells ++ [sv]) (fun k s hk => by
      by_cases e : k < x.cells.length
      · rw [List.getElem?_append_left e] at hk; exact ⟨fun e' => by omega, fun _ => hk⟩
      · rw [List.getElem?_append_right (by omega)] at hk
        have : k - x.cells.length = 0 := by
          have := (List.getElem?_eq_some_iff.1 hk).1
          simp at this; omega
        rw [this] at hk
        simp at hk
        exact ⟨fun _ => hk.symm, fun e' => by omega⟩)
    obtain ⟨w2, h4, h5, h6⟩ := Rel.extendMany (P := P) b cb co cc hb svs vs _ w1 { x with cells := x.cells ++ [sv] } (i + 1) base h2 (Heap.set_same _ _ _) hw (by simp; omega)
      (fun j hj => by
        have := hc (j + 1) (by simp; omega)
        rw [hcc]
        rw [show base + (i + 1) + j = base + i + (j + 1) from by omega]; exact this) hv.2
    rw [Heap.set_set] at h5 h6
    simp only [List.append_assoc, List.singleton_append] at h5 h6
    refine ⟨w2, ?_, h5, h3.trans h6⟩
    have ea : (Addr.add ⟨cb, base, none⟩ i) = ⟨cb, co + x.cells.length, none⟩ := by rw [Addr.add_lit, hl]
    simp only [storeCells, Sem.run_bind, ea, h1, Result.andThen_ok]
    exact h4
  | [], _ :: _, _, _, _, _, _, _, _, _, _, _, hv => hv.elim
  | _ :: _, [], _, _, _, _, _, _, _, _, _, _, hv => hv.elim

/-- What is appended: how many elements, and their cells. -/
def asrc (te : Nat → Option TI) (H : Heap) (e xt : Nat) (x : AV) : Option (Nat × List SV) :=
  match te e, te xt, x with
  | some ti, some ⟨_, _, .sli _, _, _⟩, .s (.raw (.slice none 0 0)) => some (0, [])
  | some ti, some ⟨_, _, .sli _, _, _⟩, .s (.sl b off n _) =>
    match H.m b with
    | some blk => if off + n * ti.size ≤ blk.cells.length then some (n, (blk.cells.drop off).take (n * ti.size)) else none
    | none => none
  | some ti, some ⟨_, _, .sli _, _, _⟩, .s (.vs n cells) => if cells.length = n * ti.size then some (n, cells) else none
  | some ti, some ⟨_, _, .sli _, _, _⟩, .s .ve => some (0, [])
  | _, _, _ => none

def aappend (te : Nat → Option TI) (H : Heap) (st xt : Nat) (s x : AV) : Option (AV × Heap) :=
  match te st with
  | some ⟨_, _, .sli e, _, _⟩ =>
    match te e, asrc te H e xt x with
    | some ti, some (n, news) =>
      match s with
      | .s (.raw (.slice none 0 0)) =>
        if n = 0 then some (s, H)
        else if n * ti.bytes ≤ 70368744177664 ∧ ti.bytes ≠ 0 then some (.s (.sl H.n 0 n true), H.push { cells := news, esz := ti.size, wr := true })
        else none
      | .s (.sl b 0 len true) =>
        match H.m b with
        | some blk =>
          if n = 0 then some (s, H)
          else if (len + n) * ti.bytes ≤ 70368744177664 ∧ ti.bytes ≠ 0 ∧ blk.wr = true ∧ blk.esz = ti.size ∧ ti.size ≠ 0 ∧ blk.cells.length = len * ti.size then
            some (.s (.sl H.n 0 (len + n) true), (H.set b none).push { blk with cells := blk.cells ++ news })
          else none
        | none => none
      | _ => none
    | _, _ => none
  | _ => none

/-- what the source's value is -/
theorem asrc_ok {P : Program} {te : Nat → Option TI} (hte : TEok P te) {B : Nat} {ρ : Env} {H : Heap} {w : World} (hr : Rel B ρ H w) {e xt : Nat} {ti : TI} (hti : te e = some ti) {x : AV} {xv : Value} (hx : CA ρ x xv)
    {n : Nat} {news : List SV} (h : asrc te H e xt x = some (n, news)) :
    ∃ (xe : Nat) (vs : List Value), P.underlying xt = some (.slice xe) ∧ Al2 (CS ρ) news vs ∧ vs.length = n * ti.size ∧ (∃ a c, xv = .slice a n c) ∧
      ∀ (d : Nat), (Builtin.firstCells ti.size n xv).run P { w with drawn := d } = .ok vs.toArray { w with drawn := d } := by
  unfold asrc at h
  split at h
  · rename_i ti' a1 b1 e1 c1 d1 hti' hxt
    rw [hti] at hti'; cases hti'
    injection h with h; cases h
    obtain ⟨rfl, _⟩ := hx
    have := (hte _ _ hxt).kind
    exact ⟨e1, [], this, trivial, by simp, ⟨none, 0, rfl⟩, fun d => by simp [Builtin.firstCells]⟩
  · rename_i ti' a1 b1 e1 c1 d1 b off n' gr hti' hxt
    rw [hti] at hti'; cases hti'
    have hk := (hte _ _ hxt).kind
    split at h
    · rename_i blk hblk
      split at h
      · rename_i hle
        injection h with h; cases h
        simp only [CA, CS, LC] at hx
        split at hx
        · exact hx.elim
        · rename_i hd; exact absurd hd (hr.live b blk hblk)
        · rename_i cb co cc hat
          have key : ∀ (o c : Nat), (n ≠ 0 → o = co + off) → xv = .slice (some ⟨cb, o, none⟩) n c → ∃ (xe : Nat) (vs : List Value), P.underlying xt = some (.slice xe) ∧ Al2 (CS ρ) (List.take (n * ti.size) (List.drop off blk.cells)) vs ∧ vs.length = n * ti.size ∧ (∃ a c, xv = .slice a n c) ∧
              ∀ (d : Nat), (Builtin.firstCells ti.size n xv).run P { w with drawn := d } = .ok vs.toArray { w with drawn := d } := by
            intro o c ho hxv
            obtain ⟨vs, h1, h2, h3⟩ := hr.row hat hblk off (n * ti.size) hle
            refine ⟨e1, vs, hk, h1, h2, ⟨_, _, hxv⟩, fun d => ?_⟩
            rw [hxv]
            by_cases hn : n = 0
            · subst hn
              have : vs = [] := by cases vs <;> simp_all
              subst this
              simp [Builtin.firstCells, loadCells, loadCellsFrom]
            · rw [ho hn]
              have hrun := run_loadCells' (P := P) { w with drawn := d } cb (co + off) vs (fun j v hj => by
                have := h3 j v hj
                rw [Nat.add_assoc]
                exact this)
              show (loadCells ⟨cb, co + off, none⟩ (n * ti.size)).run P _ = _
              rw [← h2]; exact hrun
          cases gr with
          | true => obtain ⟨ho, _, hv⟩ := hx; subst ho; exact key co cc (fun _ => rfl) hv
          | false => obtain ⟨c, o, _, ho, hv⟩ := hx; exact key o c ho hv
      · cases h
    · cases h
  · rename_i ti' a1 b1 e1 c1 d1 n' cells hti' hxt
    rw [hti] at hti'; cases hti'
    have hk := (hte _ _ hxt).kind
    split at h
    · rename_i hl
      injection h with h; cases h
      simp only [CA, CS] at hx
      obtain ⟨ad, c, cb, co, hxv, _, ha, _, hm⟩ := hx
      obtain ⟨vs, h1, h2, h3⟩ := MS_vals hm
      refine ⟨e1, vs, hk, h1, by rw [h2, hl], ⟨_, _, hxv⟩, fun d => ?_⟩
      rw [hxv]
      by_cases hn : n = 0
      · subst hn
        have : vs = [] := by cases vs <;> simp_all
        subst this
        cases ad <;> simp [Builtin.firstCells, loadCells, loadCellsFrom]
      · rw [ha hn]
        have hrun := run_loadCells' (P := P) { w with drawn := d } cb co vs (fun j v hj => (hr.imm _ _ _ (h3 j v hj)).1)
        show (loadCells ⟨cb, co, none⟩ (n * ti.size)).run P _ = _
        rw [← hl, ← h2]; exact hrun
    · cases h
  · rename_i ti' a1 b1 e1 c1 d1 hti' hxt
    rw [hti] at hti'; cases hti'
    injection h with h; cases h
    simp only [CA, CS] at hx
    obtain ⟨a, c, rfl⟩ := hx
    have := (hte _ _ hxt).kind
    exact ⟨e1, [], this, trivial, by simp, ⟨some a, c, rfl⟩, fun d => by simp [Builtin.firstCells, loadCells, loadCellsFrom]⟩
  · cases h

theorem nextcap_ok {need old bytes : Nat} (h : old < need) (hb : need * bytes ≤ 70368744177664) : ¬ (281474976710656 < Builtin.nextslicecap need old * bytes) := by
  have := growslice_fits (bytes := bytes) h (by omega)
  omega

theorem aappend_ok {P : Program} {te : Nat → Option TI} (hte : TEok P te) {B : Nat} {ρ : Env} {H H' : Heap} {w : World} (hr : Rel B ρ H w) {st xt ty : Nat} {s x r : AV} {sv xv : Value} (hs : CA ρ s sv) (hx : CA ρ x xv)
    (h : aappend te H st xt s x = some (r, H')) :
    ∃ rv w' ρ', (Builtin.append_ #[st, xt] ty #[sv, xv]).run P w = .ok rv w' ∧ CA ρ' r rv ∧ Rel B ρ' H' w' ∧ Step ρ H w ρ' H' w' := by
  unfold aappend at h
  split at h
  case h_2 => cases h
  rename_i _ _ e _ _ hst
  have hks : P.underlying st = some (.slice e) := (hte _ _ hst).kind
  split at h
  case h_2 => cases h
  rename_i ti n news hti hsrc
  obtain ⟨xe, vs, hkx, hvs, hvl, ⟨xa, xc, hxv⟩, hfc⟩ := asrc_ok hte hr hti hx hsrc
  obtain ⟨i, hi, hi1, hi2, z, hz, hz'⟩ := (hte _ _ hti).info
  have hnv : news.length = n * ti.size := by rw [hvs.length, hvl]
  split at h
  · -- the base is nil
    obtain ⟨rfl, _⟩ := hs
    by_cases hn : n = 0
    · subst hn
      simp only [if_true] at h
      injection h with h; cases h
      refine ⟨.slice none 0 0, w, ρ, ?_, ⟨rfl, rfl⟩, hr, Step.refl _ _ _⟩
      have hf := hfc w.drawn
      have hvs0 : vs = [] := by cases vs <;> simp_all
      subst hvs0 hxv
      simp [Builtin.append_, Go.run_underlying hks, Go.run_underlying hkx, sizeOf, typeInfo, hi, hi1, Builtin.lenOf, hf]
    · simp only [hn, if_false] at h
      split at h
      · rename_i hb
        obtain ⟨hb, hb0⟩ := hb
        injection h with h; cases h
        have h48' := nextcap_ok (need := n) (old := 0) (by omega) hb
        have hge := grownCap_ge w n 0 e
        have hf : (Builtin.firstCells ti.size n xv).run P w.drew = .ok vs.toArray w.drew := hfc (w.drawn + 1)
        have hzs : z.cells.size = ti.size := by rw [← Array.length_toList, hz', (hte _ _ hti).zsz]
        obtain ⟨hr', hstep'⟩ := (hr.drew (w.drawn + 1)).new news ((vs.toArray ++ Builtin.zeroCells z.cells (grownCap w n 0 e - n))) e ti.size (grownCap w n 0 e)
          (fun j sv hj => by
            obtain ⟨v, h1, h2⟩ := hvs.get hj
            refine ⟨v, ?_, h2⟩
            have hlt : j < vs.length := (List.getElem?_eq_some_iff.1 h1).1
            rw [Array.getElem?_append_left (by simpa using hlt)]
            simpa using h1)
          (fun _ => by
            rw [Array.size_append, size_zeroCells, hzs]
            simp only [List.size_toArray, hvl]
            rw [← Nat.add_mul]
            exact Nat.mul_le_mul_right _ (by omega))
        refine ⟨.slice (some ⟨w.heap.size, 0, none⟩) n (grownCap w n 0 e), _, _, ?_, ?_, hr', (Step.drew (w.drawn + 1)).trans hstep'⟩
        · subst hxv
          have h63' : ¬ (9223372036854775807 < (n : Int) ∧ ti.bytes = 0) := fun hh => hb0 hh.2
          simp [Builtin.append_, Go.run_underlying hks, Go.run_underlying hkx, sizeOf, typeInfo, zeroValue, hi, hi1, hi2, hz, Builtin.lenOf, hn, hb0, h48', Question.forced, run_firstCells_none, newRow, grownCap]
          rw [hf]
          rfl
        · simp [CA, CS, LC, hge]
      · cases h
  · rename_i b len
    split at h
    case h_2 => cases h
    rename_i blk hblk
    simp only [CA, CS, LC] at hs
    split at hs
    · exact hs.elim
    · rename_i hd; exact absurd hd (hr.live b blk hblk)
    rename_i cb co cc hat
    obtain ⟨_, hlc, rfl⟩ := hs
    by_cases hn : n = 0
    · subst hn
      simp only [if_true] at h
      injection h with h; cases h
      refine ⟨.slice (some ⟨cb, co, none⟩) len cc, w, ρ, ?_, ?_, hr, Step.refl _ _ _⟩
      · have hf := hfc w.drawn
        have hvs0 : vs = [] := by cases vs <;> simp_all
        subst hvs0 hxv
        simp [Builtin.append_, Go.run_underlying hks, Go.run_underlying hkx, sizeOf, typeInfo, hi, hi1, Builtin.lenOf, hf, hlc, storeCells]
      · simp [CA, CS, LC, hat, hlc]
    · simp only [hn, if_false] at h
      split at h
      case isFalse => cases h
      rename_i hb
      obtain ⟨hb, hb0, hwr, hesz, hsz0, hcl⟩ := hb
      injection h with h; cases h
      obtain ⟨C, T, fz, hC1, hC2, hC3, hC4⟩ := hr.blk b cb co cc blk hat hblk
      obtain ⟨rfl, _⟩ := hC3 hwr
      have hC4 := hC4 (by rw [hesz]; exact hsz0)
      rw [hesz] at hC4
      by_cases hroom : len + n ≤ cc
      · -- in place
        obtain ⟨hr1, hs1⟩ := hr.moved hat hblk hwr
        have hlt := hr.lt (b := b) (by rw [hat]; simp)
        have hm1 : (Heap.push (H.set b none) blk).m H.n = some blk := Heap.push_same (H.set b none) blk
        obtain ⟨w', h1, h2, h3⟩ := Rel.extendMany (P := P) H.n cb co cc (Env.put_same _ _ _) news vs _ w blk 0 (co + len * ti.size) hr1 hm1 hwr (by rw [hcl]; omega)
          (fun j hj => by
            have : len * ti.size + n * ti.size ≤ cc * ti.size := by rw [← Nat.add_mul]; exact Nat.mul_le_mul_right _ hroom
            have hlt' : co + len * ti.size + 0 + j < C.size := by omega
            simp only [World.cell?, hC1]
            simp
            omega)
          (hvs.mono fun _ _ hh => hh.mono hs1.le)
        have e : (Heap.push (H.set b none) blk).set H.n (some { blk with cells := blk.cells ++ news }) = (H.set b none).push { blk with cells := blk.cells ++ news } := by
          simp only [Heap.push, Heap.set, Heap.mk.injEq, and_true]
          funext k
          by_cases ek : k = H.n <;> simp [ek]
        rw [e] at h2 h3
        refine ⟨.slice (some ⟨cb, co, none⟩) (len + n) cc, w', _, ?_, ?_, h2, hs1.trans h3⟩
        · have hf := hfc w.drawn
          subst hxv
          have hco : Addr.add ⟨cb, co, none⟩ (len * ti.size) = ⟨cb, co + len * ti.size, none⟩ := Addr.add_lit _ _ _
          simp [Builtin.append_, Go.run_underlying hks, Go.run_underlying hkx, sizeOf, typeInfo, hi, hi1, Builtin.lenOf, hf, hroom, hco, h1]
        · simp [CA, CS, LC, hroom]
      · -- a new array
        have hge := grownCap_ge w (len + n) cc e
        have h48' := nextcap_ok (need := len + n) (old := cc) (by omega) hb
        have hf : (Builtin.firstCells ti.size n xv).run P w.drew = .ok vs.toArray w.drew := hfc (w.drawn + 1)
        have hzs : z.cells.size = ti.size := by rw [← Array.length_toList, hz', (hte _ _ hti).zsz]
        obtain ⟨olds, ho1, ho2, ho3⟩ := hr.row hat hblk 0 (len * ti.size) (by omega)
        have ho1' : Al2 (CS ρ) blk.cells olds := by
          have : List.take (len * ti.size) (List.drop 0 blk.cells) = blk.cells := by simp [← hcl]
          rw [this] at ho1; exact ho1
        have hfo : (Builtin.firstCells ti.size len (.slice (some ⟨cb, co, none⟩) len cc)).run P w.drew = .ok olds.toArray w.drew := by
          have hrun := run_loadCells' (P := P) w.drew cb co olds (fun j v hj => by
            have := ho3 j v hj
            simp at this; exact this)
          show (loadCells ⟨cb, co, none⟩ (len * ti.size)).run P _ = _
          rw [← ho2]; exact hrun
        obtain ⟨hr', hstep'⟩ := (hr.drew (w.drawn + 1)).new (blk.cells ++ news) ((olds.toArray ++ vs.toArray ++ Builtin.zeroCells z.cells (grownCap w (len + n) cc e - (len + n)))) e ti.size (grownCap w (len + n) cc e)
          (fun j sv hj => by
            obtain ⟨v, h1, h2⟩ := (ho1'.append hvs).get hj
            refine ⟨v, ?_, h2⟩
            have hlt : j < (olds ++ vs).length := (List.getElem?_eq_some_iff.1 h1).1
            rw [Array.getElem?_append_left (by simpa using hlt)]
            simpa using h1)
          (fun _ => by
            rw [Array.size_append, Array.size_append, size_zeroCells, hzs]
            simp only [List.size_toArray, hvl, ho2]
            rw [← Nat.add_mul, ← Nat.add_mul]
            exact Nat.mul_le_mul_right _ (by omega))
        have hlt := hr.lt (b := b) (by rw [hat]; simp)
        obtain ⟨hr2, hs2⟩ := hr'.kill (b := b) (by rw [Env.put_ne _ _ (by omega)]; rw [hat]; simp)
        have heq : (H.push { cells := blk.cells ++ news, esz := ti.size, wr := true }).set b none = (H.set b none).push { blk with cells := blk.cells ++ news } := by
          have : ({ cells := blk.cells ++ news, esz := ti.size, wr := true } : Blk) = { blk with cells := blk.cells ++ news } := by rw [← hesz, ← hwr]
          rw [this]
          simp only [Heap.push, Heap.set, Heap.mk.injEq, and_true]
          funext k
          by_cases ek : k = b
          · subst ek; simp [show ¬ k = H.n from by omega]
          · by_cases ek' : k = H.n
            · subst ek'; simp [show ¬ H.n = b from by omega]
            · simp [ek, ek']
        rw [heq] at hr2 hs2
        refine ⟨.slice (some ⟨w.heap.size, 0, none⟩) (len + n) (grownCap w (len + n) cc e), _, _, ?_, ?_, hr2, ((Step.drew (w.drawn + 1)).trans hstep').trans hs2⟩
        · subst hxv
          simp [Builtin.append_, Go.run_underlying hks, Go.run_underlying hkx, sizeOf, typeInfo, zeroValue, hi, hi1, hi2, hz, Builtin.lenOf, hroom, hb0, h48', Question.forced, newRow, grownCap]
          rw [hfo]
          simp only [Result.andThen_ok]
          rw [hf]
          simp only [Result.andThen_ok]
          congr 2
          refine congrArg (fun x => Obj.cells x e) ?_
          apply Array.ext'
          simp [List.append_assoc]
        · simp only [CA, CS, LC]
          rw [Env.put_ne _ _ (by omega), Env.put_same]
          exact ⟨trivial, hge, rfl⟩
  · cases h
end Go.Abs
