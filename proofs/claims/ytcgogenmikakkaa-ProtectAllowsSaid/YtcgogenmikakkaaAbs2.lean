/-
  Loads, stores and new blocks: what they do to the abstract heap.
-/
import Derived.Test.YtcgogenmikakkaaAbs1
import Derived.Laws.Cells
import Derived.Laws.Entries
import Derived.Laws.NewBlocks
import Derived.Laws.StructEq
import Derived.Laws.Append
import Derived.Laws.Small
namespace Go.Abs
set_option linter.unusedVariables false
set_option linter.unusedSimpArgs false
open Go.RowKit

/-! ### Types -/
inductive TK where
  | str (fs : List (Nat × Nat))
  | arr (n e : Nat)
  | sli (e : Nat)
  | int (k : IntKind)
  | bool
  | oth
  deriving DecidableEq

structure TI where
  size : Nat
  bytes : Nat
  kind : TK
  zero : List Value
  cmp : Bool := false

def TI.isAgg (t : TI) : Bool := match t.kind with
  | .str _ => true
  | .arr _ _ => true
  | _ => false

def kindOk (P : Program) (t : Nat) : TK → Prop
  | .str fs => ∃ fields : Array Field, P.underlying t = some (.struct fields) ∧ fields.toList.mapM (fun f => (P.info? f.type).map fun i => (f.offset, i.size)) = some fs
  | .arr n e => P.underlying t = some (.array n e)
  | .sli e => P.underlying t = some (.slice e)
  | .int k => P.underlying t = some (.int k)
  | .bool => P.underlying t = some .bool
  | .oth => ∃ d, P.underlying t = some d ∧ (∀ x, d ≠ .struct x) ∧ (∀ n e, d ≠ .array n e) ∧ (∀ k, d ≠ .int k) ∧ (∀ e, d ≠ .slice e)

/-- plain cells: numbers and truth values -/
def plainV : Value → Bool
  | .int _ _ => true
  | .bool _ => true
  | _ => false

def eqV : Value → Value → Bool
  | .int _ a, .int _ b => a == b
  | .bool a, .bool b => a == b
  | _, _ => false

def sameK : Value → Value → Bool
  | .int k _, .int k' _ => k == k'
  | .bool _, .bool _ => true
  | _, _ => false

/-- cells of the shape of the zero value -/
def shapeL : List Value → List Value → Bool
  | [], [] => true
  | z :: zs, v :: vs => sameK z v && shapeL zs vs
  | _, _ => false

def eqL : List Value → List Value → Bool
  | [], [] => true
  | x :: xs, y :: ys => eqV x y && eqL xs ys
  | _, _ => false

structure TIok (P : Program) (t : Nat) (ti : TI) : Prop where
  info : ∃ i : TypeInfo, P.info? t = some i ∧ i.size = ti.size ∧ i.bytes = ti.bytes ∧ ∃ z : Value, i.zero = some z ∧ z.cells.toList = ti.zero
  kind : kindOk P t ti.kind
  zsc : ∀ v ∈ ti.zero, scal v = true
  zsz : ti.zero.length = ti.size
  cmp : ti.cmp = true → ∀ (xs ys : List Value) (w : World), shapeL ti.zero xs = true → shapeL ti.zero ys = true →
    P.eqGuardType P.depth t = false ∧ (Op.equalIn 10000 t (.agg xs.toArray) (.agg ys.toArray)).run P w = .ok (eqL xs ys) w

def TEok (P : Program) (te : Nat → Option TI) : Prop := ∀ t ti, te t = some ti → TIok P t ti

section
variable {P : Program} {t : Nat} {ti : TI}

theorem run_underlying {d : TypeDesc} (h : P.underlying t = some d) (w : World) : (underlying t).run P w = .ok d w := by
  simp [underlying, h]

theorem TIok.sizeOf (h : TIok P t ti) (w : World) : (Go.sizeOf t).run P w = .ok ti.size w := by
  obtain ⟨i, h1, h2, _⟩ := h.info
  simp [Go.sizeOf, typeInfo, h1, h2]

theorem TIok.cellsOf (h : TIok P t ti) : P.cellsOf t = ti.size := by
  obtain ⟨i, h1, h2, _⟩ := h.info
  simp [Program.cellsOf, h1, h2]

theorem TIok.zeroValue (h : TIok P t ti) (w : World) : ∃ z : Value, (Go.zeroValue t).run P w = .ok z w ∧ z.cells.toList = ti.zero := by
  obtain ⟨i, h1, _, _, z, h4, h5⟩ := h.info
  exact ⟨z, by simp [Go.zeroValue, typeInfo, h1, h4], h5⟩

theorem TIok.isAgg (h : TIok P t ti) (w : World) : (Go.isAgg t).run P w = .ok ti.isAgg w := by
  have hk := h.kind
  unfold TI.isAgg
  cases hk' : ti.kind with
  | str fs => rw [hk'] at hk; obtain ⟨fields, h1, _⟩ := hk; simp [Go.isAgg, run_underlying h1]
  | arr n e => rw [hk'] at hk; simp [Go.isAgg, run_underlying hk]
  | sli e => rw [hk'] at hk; simp [Go.isAgg, run_underlying hk]
  | int k => rw [hk'] at hk; simp [Go.isAgg, run_underlying hk]
  | bool => rw [hk'] at hk; simp [Go.isAgg, run_underlying hk]
  | oth =>
    rw [hk'] at hk
    obtain ⟨d, h1, h2, h3, _⟩ := hk
    simp only [Go.isAgg, Sem.run_bind, run_underlying h1, Result.andThen_ok]
    cases d <;> first | rfl | exact absurd rfl (h2 _) | exact absurd rfl (h3 _ _)
end

/-! ### Cells -/
section
variable {B : Nat} {ρ : Env} {H : Heap} {w : World}

theorem BlkC.cell {cb co cc : Nat} {x : Blk} (h : BlkC B ρ w cb co cc x) {j : Nat} {sv : SV} (hj : x.cells[j]? = some sv) : ∃ v, w.cell? ⟨cb, co + j, none⟩ = some v ∧ CS ρ sv v := by
  obtain ⟨C, T, fz, h1, h2, _⟩ := h
  obtain ⟨v, h3, h4⟩ := h2 j sv hj
  exact ⟨v, by simp [World.cell?, h1, h3], h4⟩

theorem Rel.cell (h : Rel B ρ H w) {b cb co cc : Nat} {x : Blk} (hb : ρ b = .at_ cb co cc) (hx : H.m b = some x) {j : Nat} {sv : SV} (hj : x.cells[j]? = some sv) :
    ∃ v, w.cell? ⟨cb, co + j, none⟩ = some v ∧ CS ρ sv v := (h.blk b cb co cc x hb hx).cell hj

theorem Rel.lt (h : Rel B ρ H w) {b : Nat} (hb : ρ b ≠ .absent) : b < H.n := by
  rcases Nat.lt_or_ge b H.n with h1 | h1
  · exact h1
  · exact absurd (h.fresh b h1) hb

/-- the cells of a part of a block, as a list of values -/
theorem Rel.row (h : Rel B ρ H w) {b cb co cc : Nat} {x : Blk} (hb : ρ b = .at_ cb co cc) (hx : H.m b = some x) (off : Nat) : ∀ (n : Nat), off + n ≤ x.cells.length →
    ∃ vs : List Value, Al2 (CS ρ) ((x.cells.drop off).take n) vs ∧ vs.length = n ∧ ∀ j v, vs[j]? = some v → w.cell? ⟨cb, co + (off + j), none⟩ = some v
  | 0, _ => ⟨[], by simp [Al2], rfl, by simp⟩
  | n + 1, hn => by
    obtain ⟨vs, h1, h2, h3⟩ := Rel.row h hb hx off n (by omega)
    have hj : x.cells[off + n]? = some (x.cells[off + n]'(by omega)) := List.getElem?_eq_getElem (by omega)
    obtain ⟨v, h4, h5⟩ := h.cell hb hx hj
    refine ⟨vs ++ [v], ?_, by simp [h2], ?_⟩
    · have : (x.cells.drop off).take (n + 1) = (x.cells.drop off).take n ++ [x.cells[off + n]'(by omega)] := by
        rw [List.take_succ_eq_append_getElem (by simp; omega)]
        simp
      rw [this]
      exact h1.append ⟨h5, trivial⟩
    · intro j u hju
      by_cases hlt : j < vs.length
      · rw [List.getElem?_append_left hlt] at hju
        exact h3 j u hju
      · rw [List.getElem?_append_right (by omega)] at hju
        obtain ⟨rfl⟩ : j = n := by
          have := (List.getElem?_eq_some_iff.1 hju).1
          simp at this
          omega
        simp [h2] at hju
        subst hju
        exact h4

theorem run_loadCells' {P : Program} (w : World) (cb o : Nat) (vs : List Value) (h : ∀ j v, vs[j]? = some v → w.cell? ⟨cb, o + j, none⟩ = some v) :
    (loadCells ⟨cb, o, none⟩ vs.length).run P w = .ok vs.toArray w := by
  have := run_loadCells_list (P := P) (w := w) ⟨cb, o, none⟩ vs (fun j v hj => by rw [Addr.add_lit]; exact h j v hj)
  exact this

end

def aload (te : Nat → Option TI) (H : Heap) (t b off : Nat) : Option AV :=
  match te t, H.m b with
  | some ti, some x =>
    if ti.isAgg then (if off + ti.size ≤ x.cells.length then some (.agg ((x.cells.drop off).take ti.size)) else none)
    else (x.cells[off]?).map .s
  | _, _ => none

theorem aload_ok {P : Program} {te : Nat → Option TI} (hte : TEok P te) {B : Nat} {ρ : Env} {H : Heap} {w : World} {t b off : Nat} {av : AV} (h : aload te H t b off = some av) (hr : Rel B ρ H w)
    {cb co cc : Nat} (hb : ρ b = .at_ cb co cc) : ∃ cv, (loadVar t ⟨cb, co + off, none⟩).run P w = .ok cv w ∧ CA ρ av cv := by
  unfold aload at h
  split at h
  · rename_i ti x hti hx
    have ht := hte t ti hti
    by_cases ha : ti.isAgg = true
    · simp only [ha, if_true] at h
      split at h
      · rename_i hle
        injection h with h; subst h
        obtain ⟨vs, h1, h2, h3⟩ := hr.row hb hx off ti.size hle
        refine ⟨.agg vs.toArray, ?_, vs, h1, rfl⟩
        have := run_loadCells' (P := P) w cb (co + off) vs (fun j v hj => by have := h3 j v hj; rwa [← Nat.add_assoc] at this)
        simp only [loadVar, Sem.run_bind, ht.isAgg, Result.andThen_ok, ha, if_true, ht.sizeOf, Sem.run_pure]
        rw [← h2, this]
        rfl
      · cases h
    · simp only [Bool.not_eq_true] at ha
      simp only [ha] at h
      cases hc : x.cells[off]? with
      | none => rw [hc] at h; cases h
      | some sv =>
        rw [hc] at h
        simp at h; subst h
        obtain ⟨v, h1, h2⟩ := hr.cell hb hx hc
        exact ⟨v, by simp [loadVar, ht.isAgg, ha, h1], h2⟩
  · cases h

/-- the cells that do not change any more, as values -/
theorem MS_vals {ρ : Env} : ∀ {l : List SV} {cb co : Nat}, MS ρ cb co l → ∃ vs : List Value, Al2 (CS ρ) l vs ∧ vs.length = l.length ∧ ∀ j v, vs[j]? = some v → ρ.mem cb (co + j) = some v
  | [], _, _, _ => ⟨[], trivial, rfl, by simp⟩
  | x :: l, cb, co, h => by
    simp only [MS] at h
    obtain ⟨⟨v, h1, h2⟩, _, h3⟩ := h
    obtain ⟨vs, h4, h5, h6⟩ := MS_vals h3
    refine ⟨v :: vs, ⟨h2, h4⟩, by simp [h5], fun j u hj => ?_⟩
    cases j with
    | zero => simp at hj; subst hj; exact h1
    | succ j => rw [show co + (j + 1) = co + 1 + j by omega]; exact h6 j u (by simpa using hj)

def aloadV (te : Nat → Option TI) (t : Nat) (cells : List SV) : Option AV :=
  match te t with
  | some ti =>
    if ti.isAgg then (if ti.size ≤ cells.length then some (.agg (cells.take ti.size)) else none)
    else (cells[0]?).map .s
  | _ => none

theorem aloadV_ok {P : Program} {te : Nat → Option TI} (hte : TEok P te) {B : Nat} {ρ : Env} {H : Heap} {w : World} {t : Nat} {cells : List SV} {av : AV} (h : aloadV te t cells = some av) (hr : Rel B ρ H w)
    {cb co : Nat} (hb : MS ρ cb co cells) : ∃ cv, (loadVar t ⟨cb, co, none⟩).run P w = .ok cv w ∧ CA ρ av cv := by
  unfold aloadV at h
  split at h
  · rename_i ti hti
    have ht := hte t ti hti
    by_cases ha : ti.isAgg = true
    · simp only [ha, if_true] at h
      split at h
      · rename_i hle
        injection h with h; subst h
        obtain ⟨vs, h1, h2, h3⟩ := MS_vals (MS_take hb ti.size)
        refine ⟨.agg vs.toArray, ?_, vs, h1, rfl⟩
        have hrun := run_loadCells' (P := P) w cb co vs (fun j v hj => (hr.imm _ _ _ (h3 j v hj)).1)
        have hl : vs.length = ti.size := by rw [h2, List.length_take]; omega
        simp only [loadVar, Sem.run_bind, ht.isAgg, Result.andThen_ok, ha, if_true, ht.sizeOf, Sem.run_pure]
        rw [← hl, hrun]
        rfl
      · cases h
    · simp only [Bool.not_eq_true] at ha
      simp only [ha] at h
      cases hc : cells[0]? with
      | none => rw [hc] at h; cases h
      | some sv =>
        rw [hc] at h
        simp at h; subst h
        obtain ⟨v, h1, h2, _⟩ := MS_get hb hc
        have h1 := (hr.imm _ _ _ h1).1
        exact ⟨v, by simp [loadVar, ht.isAgg, ha] at h1 ⊢; simp [h1], h2⟩
  · cases h

/-! ### Stores -/
theorem scal_oneCell {v : Value} (h : scal v = true) : v.oneCell' = true := by
  cases v <;> first | rfl | simp [scal] at h

theorem setCell_heap (w : World) (cb j : Nat) (v : Value) {C : Array Value} {T : TypeId} {fz : Nat × Nat} (h : w.heap[cb]? = some (.cells C T fz)) :
    (w.setCell ⟨cb, j, none⟩ v).heap[cb]? = some (.cells (C.setIfInBounds j v) T fz) := by
  simp [World.setCell, Array.getElem?_modify, h]

/-- One cell stored: within the window, or right behind it. -/
theorem Rel.set1g {P : Program} {B : Nat} {ρ : Env} {H : Heap} {w : World} (h : Rel B ρ H w) {b cb co cc : Nat} {x : Blk} (hb : ρ b = .at_ cb co cc) (hx : H.m b = some x) (hw : x.wr = true)
    {j : Nat} {u : Value} (hcell : w.cell? ⟨cb, co + j, none⟩ = some u) {sv : SV} {v : Value} (hv : CS ρ sv v) (xs' : List SV) (hxs : ∀ i s, xs'[i]? = some s → (i = j → s = sv) ∧ (i ≠ j → x.cells[i]? = some s)) :
    ∃ w', (store ⟨cb, co + j, none⟩ v).run P w = .ok () w' ∧ Rel B ρ (H.set b (some { x with cells := xs' })) w' ∧
      Step ρ H w ρ (H.set b (some { x with cells := xs' })) w' ∧ (∀ k, (w'.cell? ⟨cb, k, none⟩).isSome = (w.cell? ⟨cb, k, none⟩).isSome) := by
  obtain ⟨C, T, fz, h1, h2, h3, h4⟩ := h.blk b cb co cc x hb hx
  obtain ⟨rfl, hBc⟩ := h3 hw
  have hfr : w.frozen? ⟨cb, co + j, none⟩ = false := by simp [World.frozen?, h1]
  have hcb : cb < w.heap.size := (Array.getElem?_eq_some_iff.1 h1).1
  have hother : ∀ k, k ≠ cb → (w.setCell ⟨cb, co + j, none⟩ v).heap[k]? = w.heap[k]? := fun k hk => Below.heap_setCell w ⟨cb, co + j, none⟩ v k hk
  have h5 : C[co + j]? = some u := by simpa [World.cell?, h1] using hcell
  have hlt : co + j < C.size := (Array.getElem?_eq_some_iff.1 h5).1
  have hown : ∀ k, Own ρ (H.set b (some { x with cells := xs' })) k → Own ρ H k := by
    rintro k ⟨b', co', cc', x', g1, g2, g3⟩
    by_cases e : b' = b
    · subst e; rw [Heap.set_same] at g2; cases g2; exact ⟨b', co', cc', x, g1, hx, hw⟩
    · rw [Heap.set_ne _ _ _ e] at g2; exact ⟨b', co', cc', x', g1, g2, g3⟩
  refine ⟨w.setCell ⟨cb, co + j, none⟩ v, ?_, and_assoc.1 ⟨h.with ⟨⟨by simpa using h.hB, h.fresh, ?_, ?_, ?_⟩, ?_⟩, ?_⟩⟩
  · have := run_store P w ⟨cb, co + j, none⟩ v .plain (scal_oneCell hv.scal)
    simp [hcell, hfr] at this
    exact this
  · intro b' x' hb'
    by_cases e : b' = b
    · subst e; exact h.live _ _ hx
    · rw [Heap.set_ne _ _ _ e] at hb'; exact h.live _ _ hb'
  · intro b' cb' co' cc' x' g1 g2
    by_cases e : b' = b
    · subst e
      rw [Heap.set_same] at g2; cases g2
      rw [hb] at g1; cases g1
      refine ⟨C.setIfInBounds (co + j) v, T, (0, 0), setCell_heap w _ _ _ h1, ?_, fun _ => ⟨rfl, hBc⟩, fun he => by simpa using h4 he⟩
      intro i s hi
      obtain ⟨k1, k2⟩ := hxs i s hi
      by_cases eij : i = j
      · subst eij
        obtain rfl := k1 rfl
        exact ⟨v, by simp [hlt], hv⟩
      · obtain ⟨u', h6, h7⟩ := h2 i s (k2 eij)
        exact ⟨u', by rw [Array.getElem?_setIfInBounds_ne (by omega)]; exact h6, h7⟩
    · rw [Heap.set_ne _ _ _ e] at g2
      have hne : cb' ≠ cb := fun e' => by
        subst e'
        have := (h.sep b' b cb' co' cc' co cc x' x e g1 hb g2 hx).2
        rw [hw] at this; cases this
      exact (h.blk b' cb' co' cc' x' g1 g2).mono (Le.refl _) (hother _ hne)
  · intro b1 b2 k co1 cc1 co2 cc2 x1 x2 hne g1 g2 g3 g4
    have key : ∀ (b' : Nat) (x' : Blk), (H.set b (some { x with cells := xs' })).m b' = some x' → ∃ x'' : Blk, H.m b' = some x'' ∧ x''.wr = x'.wr := by
      intro b' x' hh
      by_cases e : b' = b
      · subst e; rw [Heap.set_same] at hh; cases hh; exact ⟨x, hx, rfl⟩
      · rw [Heap.set_ne _ _ _ e] at hh; exact ⟨x', hh, rfl⟩
    obtain ⟨y1, k1, k2⟩ := key _ _ g3
    obtain ⟨y2, k3, k4⟩ := key _ _ g4
    have := h.sep b1 b2 k co1 cc1 co2 cc2 y1 y2 hne g1 g2 k1 k3
    rw [← k2, ← k4]; exact this
  · refine ⟨rfl, rfl, rfl, by simp, ?_, fun k hk => .inl (hown k hk), Le.refl _, fun b cb co cc e e' => by (rw [e] at e'; cases e'), Nat.le_refl _, fun _ _ h => h, fun _ _ _ h => .inl h⟩
    intro k hk hno
    refine hother k fun e => hno ?_
    subst e
    exact ⟨b, co, cc, x, hb, hx, hw⟩
  · intro k
    have : (w.setCell ⟨cb, co + j, none⟩ v).cell? ⟨cb, k, none⟩ = (C.setIfInBounds (co + j) v)[k]? := by
      simp [World.cell?, setCell_heap w _ _ _ h1]
    rw [this]
    have : w.cell? ⟨cb, k, none⟩ = C[k]? := by simp [World.cell?, h1]
    rw [this]
    simp [Array.getElem?_setIfInBounds]
    split <;> simp_all

/-- One cell stored. -/
theorem Rel.set1 {P : Program} {B : Nat} {ρ : Env} {H : Heap} {w : World} (h : Rel B ρ H w) {b cb co cc : Nat} {x : Blk} (hb : ρ b = .at_ cb co cc) (hx : H.m b = some x) (hw : x.wr = true)
    {j : Nat} (hj : j < x.cells.length) {sv : SV} {v : Value} (hv : CS ρ sv v) :
    ∃ w', (store ⟨cb, co + j, none⟩ v).run P w = .ok () w' ∧ Rel B ρ (H.set b (some { x with cells := x.cells.set j sv })) w' ∧
      Step ρ H w ρ (H.set b (some { x with cells := x.cells.set j sv })) w' := by
  obtain ⟨u, hu, _⟩ := h.cell hb hx (List.getElem?_eq_getElem hj)
  obtain ⟨w', h1, h2, h3, _⟩ := h.set1g (P := P) hb hx hw hu hv (x.cells.set j sv) (fun i s hi => by
    by_cases e : i = j
    · subst e; rw [List.getElem?_set_self hj] at hi; cases hi; exact ⟨fun _ => rfl, fun h => absurd rfl h⟩
    · rw [List.getElem?_set_ne (by omega)] at hi; exact ⟨fun h => absurd h e, fun _ => hi⟩)
  exact ⟨w', h1, h2, h3⟩

def setAll : List SV → Nat → List SV → List SV
  | cs, _, [] => cs
  | cs, i, v :: vs => setAll (cs.set i v) (i + 1) vs

@[simp] theorem setAll_length : ∀ (vs cs : List SV) (i : Nat), (setAll cs i vs).length = cs.length
  | [], _, _ => rfl
  | _ :: vs, _, _ => by simp [setAll, setAll_length vs]

theorem Heap.set_set (H : Heap) (b : Nat) (x y : Option Blk) : (H.set b x).set b y = H.set b y := by
  simp only [Heap.set, Heap.mk.injEq, and_true]
  funext k
  by_cases e : k = b <;> simp [e]

theorem Heap.set_self (H : Heap) {b : Nat} {x : Option Blk} (h : H.m b = x) : H.set b x = H := by
  cases H
  simp only [Heap.set, Heap.mk.injEq, and_true]
  funext k
  by_cases e : k = b
  · subst e; simp at h; simp [h]
  · simp [e]

/-- Many cells stored. -/
theorem Rel.setMany {P : Program} {B : Nat} {ρ : Env} (b cb co cc : Nat) (hb : ρ b = .at_ cb co cc) : ∀ (svs : List SV) (vs : List Value) (H : Heap) (w : World) (x : Blk) (i base : Nat), Rel B ρ H w → H.m b = some x → x.wr = true →
    base + i + svs.length ≤ x.cells.length → Al2 (CS ρ) svs vs →
    ∃ w', (storeCells ⟨cb, co + base, none⟩ vs i).run P w = .ok () w' ∧ Rel B ρ (H.set b (some { x with cells := setAll x.cells (base + i) svs })) w' ∧
      Step ρ H w ρ (H.set b (some { x with cells := setAll x.cells (base + i) svs })) w'
  | [], [], H, w, x, i, base, h, hx, hw, hl, _ => by
    have e : H.set b (some { x with cells := setAll x.cells (base + i) [] }) = H := Heap.set_self H hx
    rw [e]
    exact ⟨w, by simp [storeCells], h, Step.refl _ _ _⟩
  | sv :: svs, v :: vs, H, w, x, i, base, h, hx, hw, hl, hv => by
    have hj : base + i < x.cells.length := by simp at hl; omega
    obtain ⟨w1, h1, h2, h3⟩ := h.set1 (P := P) hb hx hw (j := base + i) hj hv.1
    obtain ⟨w2, h4, h5, h6⟩ := Rel.setMany (P := P) b cb co cc hb svs vs _ w1 { x with cells := x.cells.set (base + i) sv } (i + 1) base h2 (Heap.set_same _ _ _) hw (by simp at hl ⊢; omega) hv.2
    rw [Heap.set_set] at h5 h6
    refine ⟨w2, ?_, h5, h3.trans h6⟩
    have ea : (Addr.add ⟨cb, co + base, none⟩ i) = ⟨cb, co + (base + i), none⟩ := by rw [Addr.add_lit, Nat.add_assoc]
    simp only [storeCells, Sem.run_bind, ea, h1, Result.andThen_ok]
    exact h4
  | [], _ :: _, _, _, _, _, _, _, _, _, _, hv => hv.elim
  | _ :: _, [], _, _, _, _, _, _, _, _, _, hv => hv.elim

def AV.cells : AV → Option (List SV)
  | .s x => some [x]
  | .agg xs => some xs
  | _ => none

theorem CA.cells {ρ : Env} {av : AV} {v : Value} (h : CA ρ av v) {xs : List SV} (hx : av.cells = some xs) : ∃ vs : List Value, Al2 (CS ρ) xs vs ∧ v.cells.toList = vs := by
  cases av with
  | s x => injection hx with hx; subst hx; exact ⟨[v], ⟨h, trivial⟩, by rw [cells_scal (CS.scal h)]⟩
  | agg ys => injection hx with hx; subst hx; obtain ⟨vs, h1, rfl⟩ := h; exact ⟨vs, h1, rfl⟩
  | tup _ => cases hx
  | any => cases hx

def astore (te : Nat → Option TI) (H : Heap) (t b off : Nat) (av : AV) : Option Heap :=
  match te t, H.m b, av.cells with
  | some ti, some x, some vs => if x.wr = true ∧ vs.length = ti.size ∧ off + ti.size ≤ x.cells.length then some (H.set b (some { x with cells := setAll x.cells off vs })) else none
  | _, _, _ => none

theorem astore_ok {P : Program} {te : Nat → Option TI} (hte : TEok P te) {B : Nat} {ρ : Env} {H H' : Heap} {w : World} {t b off : Nat} {av : AV} {v : Value} (h : astore te H t b off av = some H') (hr : Rel B ρ H w)
    {cb co cc : Nat} (hb : ρ b = .at_ cb co cc) (hv : CA ρ av v) : ∃ w', (storeVar t ⟨cb, co + off, none⟩ v).run P w = .ok () w' ∧ Rel B ρ H' w' ∧ Step ρ H w ρ H' w' := by
  unfold astore at h
  split at h
  · rename_i ti x vs hti hx hvs
    split at h
    · rename_i hc
      obtain ⟨hw, hl, hle⟩ := hc
      injection h with h; subst h
      obtain ⟨cvs, h1, h2⟩ := hv.cells hvs
      have hlen := h1.length
      obtain ⟨w', h3, h4, h5⟩ := Rel.setMany (P := P) b cb co cc hb vs cvs H w x 0 off hr hx hw (by simp; omega) h1
      refine ⟨w', ?_, by simpa using h4, by simpa using h5⟩
      have hsz : v.cells.size = ti.size := by rw [← Array.length_toList, h2, ← hlen, hl]
      simp only [storeVar, Sem.run_bind, (hte t ti hti).sizeOf, Result.andThen_ok, hsz, h2]
      simpa using h3
    · cases h
  · cases h

/-! ### New blocks -/
def Env.put (ρ : Env) (b : Nat) (l : Loc) : Env := { ρ with loc := fun k => if k = b then l else ρ k }
@[simp] theorem Env.put_mem (ρ : Env) (b : Nat) (l : Loc) : (ρ.put b l).mem = ρ.mem := rfl
@[simp] theorem Env.put_same (ρ : Env) (b : Nat) (l : Loc) : ρ.put b l b = l := by simp [Env.put]
theorem Env.put_ne (ρ : Env) {b k : Nat} (l : Loc) (h : k ≠ b) : ρ.put b l k = ρ k := by simp [Env.put, h]

theorem Le.put {ρ : Env} {b : Nat} (l : Loc) (h : ρ b = .absent) : Le ρ (ρ.put b l) := ⟨fun k => by
  by_cases e : k = b
  · subst e; exact .inl h
  · exact .inr (.inl (Env.put_ne ρ l e)), fun _ _ _ h => h⟩

theorem Rel.new {B : Nat} {ρ : Env} {H : Heap} {w : World} (h : Rel B ρ H w) (svs : List SV) (C : Array Value) (T : TypeId) (esz cap : Nat) (hv : ∀ (j : Nat) (sv : SV), svs[j]? = some sv → ∃ v, C[j]? = some v ∧ CS ρ sv v) (hc : esz ≠ 0 → cap * esz ≤ C.size) :
    Rel B (ρ.put H.n (.at_ w.heap.size 0 cap)) (H.push { cells := svs, esz := esz, wr := true }) (w.alloc (.cells C T)) ∧
    Step ρ H w (ρ.put H.n (.at_ w.heap.size 0 cap)) (H.push { cells := svs, esz := esz, wr := true }) (w.alloc (.cells C T)) := by
  have habs : ρ H.n = .absent := h.fresh _ (Nat.le_refl _)
  have hle : Le ρ (ρ.put H.n (.at_ w.heap.size 0 cap)) := Le.put _ habs
  have hold : ∀ k, k < w.heap.size → (w.alloc (.cells C T)).heap[k]? = w.heap[k]? := fun k hk => Below.heap_alloc w _ k hk
  have hnew : (w.alloc (.cells C T)).heap[w.heap.size]? = some (.cells C T) := by show (w.heap.push _)[w.heap.size]? = _; simp
  have hltb : ∀ b cb co cc x, ρ b = .at_ cb co cc → H.m b = some x → cb < w.heap.size := fun b cb co cc x h1 h2 => by
    obtain ⟨_, _, _, h3, _⟩ := h.blk b cb co cc x h1 h2
    exact (Array.getElem?_eq_some_iff.1 h3).1
  refine h.with ⟨⟨by have := h.hB; simp; omega, ?_, ?_, ?_, ?_⟩, ⟨rfl, rfl, rfl, by simp, fun k hk _ => hold k hk, ?_, hle, ?_, by simp, fun b hb ha => by rw [Env.put_ne _ _ (by omega)]; exact ha, fun _ _ _ h => .inl h⟩⟩
  · intro b hb
    simp only [Heap.push_n] at hb
    rw [Env.put_ne _ _ (by omega)]
    exact h.fresh b (by omega)
  · intro b x hb
    by_cases e : b = H.n
    · subst e; simp
    · rw [Heap.push_ne _ _ e] at hb; rw [Env.put_ne _ _ e]; exact h.live b x hb
  · intro b cb co cc x g1 g2
    by_cases e : b = H.n
    · subst e
      rw [Heap.push_same] at g2; cases g2
      rw [Env.put_same] at g1; cases g1
      refine ⟨C, T, (0, 0), hnew, ?_, fun _ => ⟨rfl, h.hB⟩, fun he => by simpa using hc he⟩
      intro j sv hj
      obtain ⟨v, h1, h2⟩ := hv j sv hj
      exact ⟨v, by simpa using h1, h2.mono hle⟩
    · rw [Heap.push_ne _ _ e] at g2; rw [Env.put_ne _ _ e] at g1
      exact (h.blk b cb co cc x g1 g2).mono hle (hold _ (hltb _ _ _ _ _ g1 g2))
  · intro b b' cb co cc co' cc' x x' hne g1 g2 g3 g4
    by_cases e : b = H.n
    · subst e
      rw [Env.put_same] at g1; cases g1
      rw [Env.put_ne _ _ (Ne.symm hne)] at g2
      rw [Heap.push_ne _ _ (Ne.symm hne)] at g4
      exact absurd (hltb _ _ _ _ _ g2 g4) (by omega)
    · rw [Env.put_ne _ _ e] at g1
      rw [Heap.push_ne _ _ e] at g3
      by_cases e' : b' = H.n
      · subst e'
        rw [Env.put_same] at g2; cases g2
        exact absurd (hltb _ _ _ _ _ g1 g3) (by omega)
      · rw [Env.put_ne _ _ e'] at g2
        rw [Heap.push_ne _ _ e'] at g4
        exact h.sep b b' cb co cc co' cc' x x' hne g1 g2 g3 g4
  · rintro k ⟨b, co, cc, x, g1, g2, g3⟩
    by_cases e : b = H.n
    · subst e; rw [Env.put_same] at g1; cases g1; exact .inr (Nat.le_refl _)
    · rw [Env.put_ne _ _ e] at g1; rw [Heap.push_ne _ _ e] at g2
      exact .inl ⟨b, co, cc, x, g1, g2, g3⟩
  · intro b cb co cc g1 g2
    by_cases e : b = H.n
    · subst e; rw [Env.put_same] at g2; cases g2; exact .inr (Nat.le_refl _)
    · rw [Env.put_ne _ _ e] at g2; rw [g1] at g2; cases g2

end Go.Abs
