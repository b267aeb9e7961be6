/-
  Joined texts: Abs1 Abs2 Abs3 Abs4 Abs5 Abs6 Abs7 Abs8 Abs9.
-/
import Derived.OrdersIn
import Derived.Below
import Derived.TacticsIn
import Derived.Laws.Cells
import Derived.Laws.Entries
import Derived.Laws.NewBlocks
import Derived.Laws.StructEq
import Derived.Laws.Append
import Derived.Laws.Small
import Derived.Laws.AppendOwn
import Derived.WalkSpells
import Derived.Laws.Tables
/-
  The abstract heap: values with abstract block numbers, what they stand for in a world, and how a world may go on.
-/
namespace Go.Abs
set_option linter.unusedVariables false
set_option linter.unusedSimpArgs false
open Go.RowKit

/-- Two lists, element by element. -/
def Al2 {α β : Type} (R : α → β → Prop) : List α → List β → Prop
  | [], [] => True
  | x :: xs, y :: ys => R x y ∧ Al2 R xs ys
  | _, _ => False

theorem Al2.mono {α β : Type} {R R' : α → β → Prop} (h : ∀ x y, R x y → R' x y) : ∀ {xs : List α} {ys : List β}, Al2 R xs ys → Al2 R' xs ys
  | [], [], _ => trivial
  | x :: xs, y :: ys, hh => ⟨h _ _ hh.1, Al2.mono h hh.2⟩
  | [], _ :: _, hh => hh.elim
  | _ :: _, [], hh => hh.elim

theorem Al2.length {α β : Type} {R : α → β → Prop} : ∀ {xs : List α} {ys : List β}, Al2 R xs ys → xs.length = ys.length
  | [], [], _ => rfl
  | _ :: _, _ :: _, hh => by simp [Al2.length hh.2]
  | [], _ :: _, hh => hh.elim
  | _ :: _, [], hh => hh.elim

theorem Al2.get {α β : Type} {R : α → β → Prop} : ∀ {xs : List α} {ys : List β}, Al2 R xs ys → ∀ {i : Nat} {x : α}, xs[i]? = some x → ∃ y, ys[i]? = some y ∧ R x y
  | [], [], _, i, x, h => by simp at h
  | a :: xs, b :: ys, hh, 0, x, h => by simp at h; subst h; exact ⟨b, rfl, hh.1⟩
  | a :: xs, b :: ys, hh, i + 1, x, h => by simp at h; simpa using Al2.get hh.2 h
  | [], _ :: _, hh, _, _, _ => hh.elim
  | _ :: _, [], hh, _, _, _ => hh.elim

theorem Al2.of_get {α β : Type} {R : α → β → Prop} : ∀ {xs : List α} {ys : List β}, xs.length = ys.length → (∀ (i : Nat) (x : α), xs[i]? = some x → ∃ y, ys[i]? = some y ∧ R x y) → Al2 R xs ys
  | [], [], _, _ => trivial
  | x :: xs, y :: ys, hl, h => by
    refine ⟨?_, Al2.of_get (by simpa using hl) fun i z hz => ?_⟩
    · obtain ⟨y', hy, hr⟩ := h 0 x (by simp)
      simp at hy; subst hy; exact hr
    · obtain ⟨y', hy, hr⟩ := h (i + 1) z (by simpa using hz)
      exact ⟨y', by simpa using hy, hr⟩
  | [], _ :: _, hl, _ => by simp at hl
  | _ :: _, [], hl, _ => by simp at hl

theorem Al2.append {α β : Type} {R : α → β → Prop} : ∀ {xs : List α} {ys : List β} {xs' : List α} {ys' : List β}, Al2 R xs ys → Al2 R xs' ys' → Al2 R (xs ++ xs') (ys ++ ys')
  | [], [], _, _, _, h => by simpa using h
  | _ :: _, _ :: _, _, _, h1, h2 => ⟨h1.1, Al2.append h1.2 h2⟩
  | [], _ :: _, _, _, h, _ => h.elim
  | _ :: _, [], _, _, h, _ => h.elim

/-! ### Values -/
inductive SV where
  | raw (v : Value)
  | sl (b off len : Nat) (gr : Bool)
  | ptr (b off : Nat)
  | fn (f : FuncId) (caps : List (Nat × Nat))
  /-- a slice, or nil, of cells that do not change any more -/
  | vs (n : Nat) (cells : List SV)
  /-- a place of cells that do not change any more -/
  | vp (cells : List SV)
  /-- a slice of no element that is not nil -/
  | ve

inductive Cmp where
  | s (x : SV)
  | agg (xs : List SV)

inductive AV where
  | s (x : SV)
  | agg (xs : List SV)
  | tup (xs : List Cmp)
  | any

def Cmp.av : Cmp → AV
  | .s x => .s x
  | .agg xs => .agg xs

inductive Loc where
  | absent | dead
  | at_ (b o cap : Nat)

/-- where blocks lie; and memory that does not change any more -/
structure Env where
  loc : Nat → Loc
  mem : Nat → Nat → Option Value
instance : CoeFun Env (fun _ => Nat → Loc) := ⟨Env.loc⟩

def scal : Value → Bool
  | .agg _ => false
  | .tuple _ => false
  | _ => true

def PC (ρ : Env) (b off : Nat) (v : Value) : Prop :=
  match ρ b with
  | .absent => False
  | .dead => scal v = true
  | .at_ cb co _ => v = .pointer (some ⟨cb, co + off, none⟩)

def LC (ρ : Env) (b off len : Nat) (gr : Bool) (v : Value) : Prop :=
  match ρ b with
  | .absent => False
  | .dead => scal v = true
  | .at_ cb co cc =>
    match gr with
    | true => off = 0 ∧ len ≤ cc ∧ v = .slice (some ⟨cb, co, none⟩) len cc
    | false => ∃ c o, len ≤ c ∧ (len ≠ 0 → o = co + off) ∧ v = .slice (some ⟨cb, o, none⟩) len c

/-- what does not hang on a block of the heap -/
def pers : SV → Bool
  | .raw _ | .vs _ _ | .vp _ | .ve => true
  | _ => false

mutual
def CS (ρ : Env) : SV → Value → Prop
  | .raw v, cv => cv = v ∧ scal v = true
  | .ptr b off, cv => PC ρ b off cv
  | .sl b off len gr, cv => LC ρ b off len gr cv
  | .fn f caps, cv => ∃ vs : List Value, Al2 (fun p v => PC ρ p.1 p.2 v) caps vs ∧ cv = .func (.func f) #[] vs.toArray
  | .vs n cells, cv => ∃ a c cb co, cv = .slice a n c ∧ n ≤ c ∧ (n ≠ 0 → a = some ⟨cb, co, none⟩) ∧ (a = none → c = 0) ∧ MS ρ cb co cells
  | .vp cells, cv => ∃ cb co, cv = .pointer (some ⟨cb, co, none⟩) ∧ MS ρ cb co cells
  | .ve, cv => ∃ a c, cv = .slice (some a) 0 c
def MS (ρ : Env) (cb : Nat) : Nat → List SV → Prop
  | _, [] => True
  | co, sv :: svs => (∃ v, ρ.mem cb co = some v ∧ CS ρ sv v) ∧ pers sv = true ∧ MS ρ cb (co + 1) svs
end

def CC (ρ : Env) : Cmp → Value → Prop
  | .s x, v => CS ρ x v
  | .agg xs, v => ∃ vs : List Value, Al2 (CS ρ) xs vs ∧ v = .agg vs.toArray

def CA (ρ : Env) : AV → Value → Prop
  | .s x, v => CS ρ x v
  | .agg xs, v => ∃ vs : List Value, Al2 (CS ρ) xs vs ∧ v = .agg vs.toArray
  | .tup cs, v => ∃ vs : List Value, Al2 (CC ρ) cs vs ∧ v = .tuple vs.toArray
  | .any, _ => True

theorem CC.av {ρ : Env} {c : Cmp} {v : Value} (h : CC ρ c v) : CA ρ c.av v := by cases c <;> exact h
theorem CC.of_av {ρ : Env} {c : Cmp} {v : Value} (h : CA ρ c.av v) : CC ρ c v := by cases c <;> exact h

theorem PC.scal {ρ : Env} {b off : Nat} {v : Value} (h : PC ρ b off v) : scal v = true := by
  unfold PC at h
  split at h
  · exact h.elim
  · exact h
  · subst h; rfl

theorem CS.scal {ρ : Env} {x : SV} {v : Value} (h : CS ρ x v) : scal v = true := by
  cases x with
  | raw u => simp only [CS] at h; obtain ⟨rfl, h⟩ := h; exact h
  | ptr b off => simp only [CS] at h; exact PC.scal h
  | sl b off len cap =>
    simp only [CS, LC] at h
    split at h
    · exact h.elim
    · exact h
    · split at h
      · obtain ⟨_, _, rfl⟩ := h; rfl
      · obtain ⟨_, _, _, _, rfl⟩ := h; rfl
  | fn f caps => simp only [CS] at h; obtain ⟨_, _, rfl⟩ := h; rfl
  | vs n cells => simp only [CS] at h; obtain ⟨_, _, _, _, rfl, _⟩ := h; rfl
  | vp cells => simp only [CS] at h; obtain ⟨_, _, rfl, _⟩ := h; rfl
  | ve => simp only [CS] at h; obtain ⟨_, _, rfl⟩ := h; rfl

theorem cells_scal {v : Value} (h : scal v = true) : v.cells = #[v] := by
  cases v <;> first | rfl | simp [Abs.scal] at h

/-! ### How locations go on -/
structure Le (ρ ρ' : Env) : Prop where
  loc : ∀ b, ρ b = .absent ∨ ρ' b = ρ b ∨ ρ' b = .dead
  mem : ∀ cb j v, ρ.mem cb j = some v → ρ'.mem cb j = some v
instance {ρ ρ' : Env} : CoeFun (Le ρ ρ') (fun _ => ∀ b, ρ b = .absent ∨ ρ' b = ρ b ∨ ρ' b = .dead) := ⟨Le.loc⟩

theorem Le.refl (ρ : Env) : Le ρ ρ := ⟨fun _ => .inr (.inl rfl), fun _ _ _ h => h⟩
theorem Le.trans {a b c : Env} (h : Le a b) (k : Le b c) : Le a c := ⟨fun x => by
  rcases h x with h1 | h1 | h1
  · exact .inl h1
  · rcases k x with k1 | k1 | k1
    · rw [h1] at k1; exact .inl k1
    · exact .inr (.inl (k1.trans h1))
    · exact .inr (.inr k1)
  · rcases k x with k1 | k1 | k1
    · rw [h1] at k1; cases k1
    · exact .inr (.inr (k1.trans h1))
    · exact .inr (.inr k1), fun cb j v hv => k.mem cb j v (h.mem cb j v hv)⟩

theorem PC.mono {ρ ρ' : Env} (h : Le ρ ρ') {b off : Nat} {v : Value} (hv : PC ρ b off v) : PC ρ' b off v := by
  have hs := PC.scal hv
  rcases h b with h1 | h1 | h1
  · simp [PC, h1] at hv
  · simp only [PC, h1] at hv ⊢; exact hv
  · simp only [PC, h1]; exact hs

/-- cells that do not change any more stay so -/
theorem pers_mono {ρ ρ' : Env} (h : ∀ cb j v, ρ.mem cb j = some v → ρ'.mem cb j = some v) : ∀ {x : SV} {v : Value}, pers x = true → CS ρ x v → CS ρ' x v := by
  have key : ∀ x : SV, ∀ v : Value, pers x = true → CS ρ x v → CS ρ' x v := by
    refine SV.rec (motive_1 := fun x => ∀ v : Value, pers x = true → CS ρ x v → CS ρ' x v) (motive_2 := fun l => ∀ cb co, MS ρ cb co l → MS ρ' cb co l) ?_ ?_ ?_ ?_ ?_ ?_ ?_ ?_ ?_
    · intro u v _ hv; simp only [CS] at hv ⊢; exact hv
    · intro b off len gr v hp; cases hp
    · intro b off v hp; cases hp
    · intro f caps v hp; cases hp
    · intro n cells ih v _ hv
      simp only [CS] at hv ⊢
      obtain ⟨a, c, cb, co, h1, h2, h3, h5, h4⟩ := hv
      exact ⟨a, c, cb, co, h1, h2, h3, h5, ih cb co h4⟩
    · intro cells ih v _ hv
      simp only [CS] at hv ⊢
      obtain ⟨cb, co, h1, h4⟩ := hv
      exact ⟨cb, co, h1, ih cb co h4⟩
    · intro v _ hv; simp only [CS] at hv ⊢; exact hv
    · intro cb co hm; simp only [MS]
    · intro sv svs ih1 ih2 cb co hm
      simp only [MS] at hm ⊢
      obtain ⟨⟨v, h1, h2⟩, h3, h4⟩ := hm
      exact ⟨⟨v, h _ _ _ h1, ih1 v h3 h2⟩, h3, ih2 _ _ h4⟩
  intro x v hp hv; exact key x v hp hv

theorem MS_mono {ρ ρ' : Env} (h : ∀ cb j v, ρ.mem cb j = some v → ρ'.mem cb j = some v) : ∀ {l : List SV} {cb co : Nat}, MS ρ cb co l → MS ρ' cb co l
  | [], _, _, _ => by simp only [MS]
  | sv :: svs, cb, co, hm => by
    simp only [MS] at hm ⊢
    obtain ⟨⟨v, h1, h2⟩, h3, h4⟩ := hm
    exact ⟨⟨v, h _ _ _ h1, pers_mono h h3 h2⟩, h3, MS_mono h h4⟩

theorem MS_get {ρ : Env} : ∀ {l : List SV} {cb co : Nat}, MS ρ cb co l → ∀ {j : Nat} {sv : SV}, l[j]? = some sv → ∃ v, ρ.mem cb (co + j) = some v ∧ CS ρ sv v ∧ pers sv = true
  | [], _, _, _, j, sv, hj => by simp at hj
  | x :: l, cb, co, hm, j, sv, hj => by
    simp only [MS] at hm
    cases j with
    | zero =>
      simp at hj; subst hj
      obtain ⟨⟨v, h1, h2⟩, h3, _⟩ := hm
      exact ⟨v, h1, h2, h3⟩
    | succ j =>
      obtain ⟨v, h1, h2, h3⟩ := MS_get hm.2.2 (j := j) (by simpa using hj)
      exact ⟨v, by rw [show co + (j + 1) = co + 1 + j by omega]; exact h1, h2, h3⟩

theorem MS_of {ρ : Env} : ∀ {l : List SV} {cb co : Nat}, (∀ (j : Nat) (sv : SV), l[j]? = some sv → ∃ v, ρ.mem cb (co + j) = some v ∧ CS ρ sv v ∧ pers sv = true) → MS ρ cb co l
  | [], _, _, _ => by simp only [MS]
  | x :: l, cb, co, h => by
    simp only [MS]
    obtain ⟨v, h1, h2, h3⟩ := h 0 x rfl
    refine ⟨⟨v, h1, h2⟩, h3, MS_of fun j sv hj => ?_⟩
    obtain ⟨v, h1, h2, h3⟩ := h (j + 1) sv (by simpa using hj)
    exact ⟨v, by rw [show co + 1 + j = co + (j + 1) by omega]; exact h1, h2, h3⟩

theorem MS_drop {ρ : Env} {l : List SV} {cb co : Nat} (h : MS ρ cb co l) (k : Nat) : MS ρ cb (co + k) (l.drop k) := MS_of fun j sv hj => by
  rw [List.getElem?_drop] at hj
  rw [Nat.add_assoc]; exact MS_get h hj
theorem MS_take {ρ : Env} {l : List SV} {cb co : Nat} (h : MS ρ cb co l) (k : Nat) : MS ρ cb co (l.take k) := MS_of fun j sv hj => by
  rw [List.getElem?_take] at hj
  split at hj
  · exact MS_get h hj
  · cases hj

theorem CS.mono {ρ ρ' : Env} (h : Le ρ ρ') {x : SV} {v : Value} (hv : CS ρ x v) : CS ρ' x v := by
  have hs := CS.scal hv
  cases x with
  | raw u => exact pers_mono h.mem rfl hv
  | ptr b off => simp only [CS] at hv ⊢; exact PC.mono h hv
  | sl b off len cap =>
    rcases h b with h1 | h1 | h1
    · simp [CS, LC, h1] at hv
    · simp only [CS, LC, h1] at hv ⊢; exact hv
    · simp only [CS, LC, h1]; exact hs
  | fn f caps => simp only [CS] at hv ⊢; obtain ⟨vs, h1, h2⟩ := hv; exact ⟨vs, h1.mono fun _ _ => PC.mono h, h2⟩
  | vs n cells => exact pers_mono h.mem rfl hv
  | vp cells => exact pers_mono h.mem rfl hv
  | ve => exact pers_mono h.mem rfl hv

theorem CC.mono {ρ ρ' : Env} (h : Le ρ ρ') {x : Cmp} {v : Value} (hv : CC ρ x v) : CC ρ' x v := by
  cases x with
  | s x => exact CS.mono h hv
  | agg xs => obtain ⟨vs, h1, h2⟩ := hv; exact ⟨vs, h1.mono fun _ _ => CS.mono h, h2⟩

theorem CA.mono {ρ ρ' : Env} (h : Le ρ ρ') {x : AV} {v : Value} (hv : CA ρ x v) : CA ρ' x v := by
  cases x with
  | s x => exact CS.mono h hv
  | agg xs => obtain ⟨vs, h1, h2⟩ := hv; exact ⟨vs, h1.mono fun _ _ => CS.mono h, h2⟩
  | tup xs => obtain ⟨vs, h1, h2⟩ := hv; exact ⟨vs, h1.mono fun _ _ => CC.mono h, h2⟩
  | any => trivial

/-! ### The heap -/
structure Blk where
  cells : List SV
  esz : Nat := 0
  wr : Bool := true

structure Heap where
  m : Nat → Option Blk
  n : Nat

def Heap.set (H : Heap) (b : Nat) (x : Option Blk) : Heap := { H with m := fun k => if k = b then x else H.m k }
def Heap.push (H : Heap) (x : Blk) : Heap := { m := fun k => if k = H.n then some x else H.m k, n := H.n + 1 }

@[simp] theorem Heap.push_n (H : Heap) (x : Blk) : (H.push x).n = H.n + 1 := rfl
@[simp] theorem Heap.set_n (H : Heap) (b : Nat) (x : Option Blk) : (H.set b x).n = H.n := rfl
@[simp] theorem Heap.push_same (H : Heap) (x : Blk) : (H.push x).m H.n = some x := by simp [Heap.push]
theorem Heap.push_ne (H : Heap) (x : Blk) {k : Nat} (h : k ≠ H.n) : (H.push x).m k = H.m k := by simp [Heap.push, h]
@[simp] theorem Heap.set_same (H : Heap) (b : Nat) (x : Option Blk) : (H.set b x).m b = x := by simp [Heap.set]
theorem Heap.set_ne (H : Heap) (b : Nat) (x : Option Blk) {k : Nat} (h : k ≠ b) : (H.set b x).m k = H.m k := by simp [Heap.set, h]

/-- What an abstract block says of a concrete one. -/
def BlkC (B : Nat) (ρ : Env) (w : World) (cb co cc : Nat) (x : Blk) : Prop :=
  ∃ (C : Array Value) (T : TypeId) (fz : Nat × Nat), w.heap[cb]? = some (.cells C T fz) ∧
    (∀ (j : Nat) (sv : SV), x.cells[j]? = some sv → ∃ v, C[co + j]? = some v ∧ CS ρ sv v) ∧
    (x.wr = true → fz = (0, 0) ∧ B ≤ cb) ∧ (x.esz ≠ 0 → co + cc * x.esz ≤ C.size)

structure Rel0 (B : Nat) (ρ : Env) (H : Heap) (w : World) : Prop where
  hB : B ≤ w.heap.size
  fresh : ∀ b, H.n ≤ b → ρ b = .absent
  live : ∀ b x, H.m b = some x → ρ b ≠ .dead
  blk : ∀ b cb co cc x, ρ b = .at_ cb co cc → H.m b = some x → BlkC B ρ w cb co cc x
  sep : ∀ b b' cb co cc co' cc' x x', b ≠ b' → ρ b = .at_ cb co cc → ρ b' = .at_ cb co' cc' → H.m b = some x → H.m b' = some x' → x.wr = false ∧ x'.wr = false

def Own (ρ : Env) (H : Heap) (k : Nat) : Prop := ∃ b co cc x, ρ b = .at_ k co cc ∧ H.m b = some x ∧ x.wr = true

structure Rel (B : Nat) (ρ : Env) (H : Heap) (w : World) : Prop extends Rel0 B ρ H w where
  imm : ∀ cb j v, ρ.mem cb j = some v → w.cell? ⟨cb, j, none⟩ = some v ∧ ¬ Own ρ H cb

structure Step (ρ : Env) (H : Heap) (w : World) (ρ' : Env) (H' : Heap) (w' : World) : Prop where
  os : w'.os = w.os
  tape : w'.tape = w.tape
  output : w'.output = w.output
  size : w.heap.size ≤ w'.heap.size
  keep : ∀ k, k < w.heap.size → ¬ Own ρ H k → w'.heap[k]? = w.heap[k]?
  own : ∀ k, Own ρ' H' k → Own ρ H k ∨ w.heap.size ≤ k
  le : Le ρ ρ'
  new : ∀ b cb co cc, ρ b = .absent → ρ' b = .at_ cb co cc → Own ρ H cb ∨ w.heap.size ≤ cb
  n : H.n ≤ H'.n
  abs : ∀ b, b < H.n → ρ b = .absent → ρ' b = .absent
  memn : ∀ cb j v, ρ'.mem cb j = some v → ρ.mem cb j = some v ∨ Own ρ H cb ∨ w.heap.size ≤ cb

theorem Step.refl (ρ : Env) (H : Heap) (w : World) : Step ρ H w ρ H w :=
  ⟨rfl, rfl, rfl, Nat.le_refl _, fun _ _ _ => rfl, fun _ h => .inl h, Le.refl _, fun b cb co cc h h' => (by rw [h] at h'; cases h'), Nat.le_refl _, fun _ _ h => h, fun _ _ _ h => .inl h⟩

theorem Step.trans {ρ ρ' ρ'' : Env} {H H' H'' : Heap} {w w' w'' : World} (h : Step ρ H w ρ' H' w') (k : Step ρ' H' w' ρ'' H'' w'') : Step ρ H w ρ'' H'' w'' := by
  have hs := h.size
  refine ⟨k.os.trans h.os, k.tape.trans h.tape, k.output.trans h.output, Nat.le_trans h.size k.size, ?_, ?_, h.le.trans k.le, ?_, Nat.le_trans h.n k.n, fun b hb ha => k.abs b (Nat.lt_of_lt_of_le hb h.n) (h.abs b hb ha), fun cb j v hv => ?_⟩
  · intro i hi ho
    refine (k.keep i (by omega) fun h' => ?_).trans (h.keep i hi ho)
    rcases h.own i h' with h1 | h1
    · exact ho h1
    · omega
  · intro i hi
    rcases k.own i hi with h1 | h1
    · exact h.own i h1
    · exact .inr (by omega)
  · intro b cb co cc h1 h2
    by_cases hb : ρ' b = .absent
    · rcases k.new b cb co cc hb h2 with h3 | h3
      · exact h.own _ h3
      · exact .inr (by omega)
    · rcases k.le b with h3 | h3 | h3
      · exact absurd h3 hb
      · rw [h3] at h2; exact h.new b cb co cc h1 h2
      · rw [h3] at h2; cases h2
  · rcases k.memn cb j v hv with h1 | h1 | h1
    · exact h.memn cb j v h1
    · exact .inr (h.own _ h1)
    · exact .inr (.inr (by omega))

theorem imm_lt {w : World} {cb j : Nat} {v : Value} (h : w.cell? ⟨cb, j, none⟩ = some v) : cb < w.heap.size := by
  rcases Nat.lt_or_ge cb w.heap.size with h1 | h1
  · exact h1
  · simp [World.cell?, Array.getElem?_eq_none h1] at h
theorem imm_step {ρ ρ' : Env} {H H' : Heap} {w w' : World} (hi : ∀ cb j v, ρ.mem cb j = some v → w.cell? ⟨cb, j, none⟩ = some v ∧ ¬ Own ρ H cb) (hs : Step ρ H w ρ' H' w') (cb j : Nat) (v : Value) (h : ρ.mem cb j = some v) :
    w'.cell? ⟨cb, j, none⟩ = some v ∧ ¬ Own ρ' H' cb := by
  obtain ⟨h1, h2⟩ := hi cb j v h
  have hl := imm_lt h1
  refine ⟨?_, fun ho => ?_⟩
  · have := hs.keep cb hl h2
    simp only [World.cell?, this] at h1 ⊢; exact h1
  · rcases hs.own cb ho with h3 | h3
    · exact h2 h3
    · omega
/-- what is known of the blocks, and a step that brought it about -/
theorem Rel0.rel {B : Nat} {ρ ρ' : Env} {H H' : Heap} {w w' : World} (h : Rel0 B ρ' H' w') (hr : Rel B ρ H w) (hs : Step ρ H w ρ' H' w') (hm : ρ'.mem = ρ.mem) : Rel B ρ' H' w' :=
  ⟨h, fun cb j v hv => imm_step hr.imm hs cb j v (by rw [← hm]; exact hv)⟩
theorem Rel.with {B : Nat} {ρ ρ' : Env} {H H' : Heap} {w w' : World} (hr : Rel B ρ H w) (h : Rel0 B ρ' H' w' ∧ Step ρ H w ρ' H' w') (hm : ρ'.mem = ρ.mem := by rfl) : Rel B ρ' H' w' ∧ Step ρ H w ρ' H' w' := ⟨h.1.rel hr h.2 hm, h.2⟩

theorem Step.below {B : Nat} {ρ ρ' : Env} {H H' : Heap} {w w' : World} (h : Step ρ H w ρ' H' w') (hr : Rel B ρ H w) : Below B w w' :=
  ⟨h.os, h.tape, h.output, h.size, fun k hk => h.keep k (by have := hr.hB; omega) fun ⟨b, co, cc, x, h1, h2, h3⟩ => by
    obtain ⟨_, _, _, _, _, hw, _⟩ := hr.blk b k co cc x h1 h2
    have := (hw h3).2
    omega⟩

/-- A draw. -/
theorem Rel.drew {B : Nat} {ρ : Env} {H : Heap} {w : World} (h : Rel B ρ H w) (d : Nat) : Rel B ρ H { w with drawn := d } :=
  ⟨⟨h.hB, h.fresh, h.live, h.blk, h.sep⟩, h.imm⟩
theorem Step.drew {ρ : Env} {H : Heap} {w : World} (d : Nat) : Step ρ H w ρ H { w with drawn := d } :=
  ⟨rfl, rfl, rfl, Nat.le_refl _, fun _ _ _ => rfl, fun _ h => .inl h, Le.refl _, fun b cb co cc h h' => (by rw [h] at h'; cases h'), Nat.le_refl _, fun _ _ h => h, fun _ _ _ h => .inl h⟩

/-- A block forgotten: more is not said of it. -/
theorem BlkC.mono {B : Nat} {ρ ρ' : Env} {w w' : World} {cb co cc : Nat} {x : Blk} (h : BlkC B ρ w cb co cc x) (hl : Le ρ ρ') (hw : w'.heap[cb]? = w.heap[cb]?) : BlkC B ρ' w' cb co cc x := by
  obtain ⟨C, T, fz, h1, h2, h3, h4⟩ := h
  exact ⟨C, T, fz, hw.trans h1, fun j sv hj => let ⟨v, h5, h6⟩ := h2 j sv hj; ⟨v, h5, h6.mono hl⟩, h3, h4⟩

end Go.Abs
/-
  Loads, stores and new blocks: what they do to the abstract heap.
-/
namespace Go.Abs
set_option linter.unusedVariables false
set_option linter.unusedSimpArgs false
open Go.RowKit

/-! ### Types -/
inductive TK where
  | str (fs : List (Nat × Nat))
  | arr (n e : Nat)
  | sli (e : Nat)
  | int (k : IntKind)
  | bool
  | oth
  deriving DecidableEq

structure TI where
  size : Nat
  bytes : Nat
  kind : TK
  zero : List Value
  cmp : Bool := false

def TI.isAgg (t : TI) : Bool := match t.kind with
  | .str _ => true
  | .arr _ _ => true
  | _ => false

def kindOk (P : Program) (t : Nat) : TK → Prop
  | .str fs => ∃ fields : Array Field, P.underlying t = some (.struct fields) ∧ fields.toList.mapM (fun f => (P.info? f.type).map fun i => (f.offset, i.size)) = some fs
  | .arr n e => P.underlying t = some (.array n e)
  | .sli e => P.underlying t = some (.slice e)
  | .int k => P.underlying t = some (.int k)
  | .bool => P.underlying t = some .bool
  | .oth => ∃ d, P.underlying t = some d ∧ (∀ x, d ≠ .struct x) ∧ (∀ n e, d ≠ .array n e) ∧ (∀ k, d ≠ .int k) ∧ (∀ e, d ≠ .slice e)

/-- plain cells: numbers and truth values -/
def plainV : Value → Bool
  | .int _ _ => true
  | .bool _ => true
  | _ => false

def eqV : Value → Value → Bool
  | .int _ a, .int _ b => a == b
  | .bool a, .bool b => a == b
  | _, _ => false

def sameK : Value → Value → Bool
  | .int k _, .int k' _ => k == k'
  | .bool _, .bool _ => true
  | _, _ => false

/-- cells of the shape of the zero value -/
def shapeL : List Value → List Value → Bool
  | [], [] => true
  | z :: zs, v :: vs => sameK z v && shapeL zs vs
  | _, _ => false

def eqL : List Value → List Value → Bool
  | [], [] => true
  | x :: xs, y :: ys => eqV x y && eqL xs ys
  | _, _ => false

structure TIok (P : Program) (t : Nat) (ti : TI) : Prop where
  info : ∃ i : TypeInfo, P.info? t = some i ∧ i.size = ti.size ∧ i.bytes = ti.bytes ∧ ∃ z : Value, i.zero = some z ∧ z.cells.toList = ti.zero
  kind : kindOk P t ti.kind
  zsc : ∀ v ∈ ti.zero, scal v = true
  zsz : ti.zero.length = ti.size
  cmp : ti.cmp = true → ∀ (xs ys : List Value) (w : World), shapeL ti.zero xs = true → shapeL ti.zero ys = true →
    P.eqGuardType P.depth t = false ∧ (Op.equalIn 10000 t (.agg xs.toArray) (.agg ys.toArray)).run P w = .ok (eqL xs ys) w

def TEok (P : Program) (te : Nat → Option TI) : Prop := ∀ t ti, te t = some ti → TIok P t ti

section
variable {P : Program} {t : Nat} {ti : TI}

theorem run_underlying {d : TypeDesc} (h : P.underlying t = some d) (w : World) : (underlying t).run P w = .ok d w := by
  simp [underlying, h]

theorem TIok.sizeOf (h : TIok P t ti) (w : World) : (Go.sizeOf t).run P w = .ok ti.size w := by
  obtain ⟨i, h1, h2, _⟩ := h.info
  simp [Go.sizeOf, typeInfo, h1, h2]

theorem TIok.cellsOf (h : TIok P t ti) : P.cellsOf t = ti.size := by
  obtain ⟨i, h1, h2, _⟩ := h.info
  simp [Program.cellsOf, h1, h2]

theorem TIok.zeroValue (h : TIok P t ti) (w : World) : ∃ z : Value, (Go.zeroValue t).run P w = .ok z w ∧ z.cells.toList = ti.zero := by
  obtain ⟨i, h1, _, _, z, h4, h5⟩ := h.info
  exact ⟨z, by simp [Go.zeroValue, typeInfo, h1, h4], h5⟩

theorem TIok.isAgg (h : TIok P t ti) (w : World) : (Go.isAgg t).run P w = .ok ti.isAgg w := by
  have hk := h.kind
  unfold TI.isAgg
  cases hk' : ti.kind with
  | str fs => rw [hk'] at hk; obtain ⟨fields, h1, _⟩ := hk; simp [Go.isAgg, run_underlying h1]
  | arr n e => rw [hk'] at hk; simp [Go.isAgg, run_underlying hk]
  | sli e => rw [hk'] at hk; simp [Go.isAgg, run_underlying hk]
  | int k => rw [hk'] at hk; simp [Go.isAgg, run_underlying hk]
  | bool => rw [hk'] at hk; simp [Go.isAgg, run_underlying hk]
  | oth =>
    rw [hk'] at hk
    obtain ⟨d, h1, h2, h3, _⟩ := hk
    simp only [Go.isAgg, Sem.run_bind, run_underlying h1, Result.andThen_ok]
    cases d <;> first | rfl | exact absurd rfl (h2 _) | exact absurd rfl (h3 _ _)
end

/-! ### Cells -/
section
variable {B : Nat} {ρ : Env} {H : Heap} {w : World}

theorem BlkC.cell {cb co cc : Nat} {x : Blk} (h : BlkC B ρ w cb co cc x) {j : Nat} {sv : SV} (hj : x.cells[j]? = some sv) : ∃ v, w.cell? ⟨cb, co + j, none⟩ = some v ∧ CS ρ sv v := by
  obtain ⟨C, T, fz, h1, h2, _⟩ := h
  obtain ⟨v, h3, h4⟩ := h2 j sv hj
  exact ⟨v, by simp [World.cell?, h1, h3], h4⟩

theorem Rel.cell (h : Rel B ρ H w) {b cb co cc : Nat} {x : Blk} (hb : ρ b = .at_ cb co cc) (hx : H.m b = some x) {j : Nat} {sv : SV} (hj : x.cells[j]? = some sv) :
    ∃ v, w.cell? ⟨cb, co + j, none⟩ = some v ∧ CS ρ sv v := (h.blk b cb co cc x hb hx).cell hj

theorem Rel.lt (h : Rel B ρ H w) {b : Nat} (hb : ρ b ≠ .absent) : b < H.n := by
  rcases Nat.lt_or_ge b H.n with h1 | h1
  · exact h1
  · exact absurd (h.fresh b h1) hb

/-- the cells of a part of a block, as a list of values -/
theorem Rel.row (h : Rel B ρ H w) {b cb co cc : Nat} {x : Blk} (hb : ρ b = .at_ cb co cc) (hx : H.m b = some x) (off : Nat) : ∀ (n : Nat), off + n ≤ x.cells.length →
    ∃ vs : List Value, Al2 (CS ρ) ((x.cells.drop off).take n) vs ∧ vs.length = n ∧ ∀ j v, vs[j]? = some v → w.cell? ⟨cb, co + (off + j), none⟩ = some v
  | 0, _ => ⟨[], by simp [Al2], rfl, by simp⟩
  | n + 1, hn => by
    obtain ⟨vs, h1, h2, h3⟩ := Rel.row h hb hx off n (by omega)
    have hj : x.cells[off + n]? = some (x.cells[off + n]'(by omega)) := List.getElem?_eq_getElem (by omega)
    obtain ⟨v, h4, h5⟩ := h.cell hb hx hj
    refine ⟨vs ++ [v], ?_, by simp [h2], ?_⟩
    · have : (x.cells.drop off).take (n + 1) = (x.cells.drop off).take n ++ [x.cells[off + n]'(by omega)] := by
        rw [List.take_succ_eq_append_getElem (by simp; omega)]
        simp
      rw [this]
      exact h1.append ⟨h5, trivial⟩
    · intro j u hju
      by_cases hlt : j < vs.length
      · rw [List.getElem?_append_left hlt] at hju
        exact h3 j u hju
      · rw [List.getElem?_append_right (by omega)] at hju
        obtain ⟨rfl⟩ : j = n := by
          have := (List.getElem?_eq_some_iff.1 hju).1
          simp at this
          omega
        simp [h2] at hju
        subst hju
        exact h4

theorem run_loadCells' {P : Program} (w : World) (cb o : Nat) (vs : List Value) (h : ∀ j v, vs[j]? = some v → w.cell? ⟨cb, o + j, none⟩ = some v) :
    (loadCells ⟨cb, o, none⟩ vs.length).run P w = .ok vs.toArray w := by
  have := run_loadCells_list (P := P) (w := w) ⟨cb, o, none⟩ vs (fun j v hj => by rw [Addr.add_lit]; exact h j v hj)
  exact this

end

def aload (te : Nat → Option TI) (H : Heap) (t b off : Nat) : Option AV :=
  match te t, H.m b with
  | some ti, some x =>
    if ti.isAgg then (if off + ti.size ≤ x.cells.length then some (.agg ((x.cells.drop off).take ti.size)) else none)
    else (x.cells[off]?).map .s
  | _, _ => none

theorem aload_ok {P : Program} {te : Nat → Option TI} (hte : TEok P te) {B : Nat} {ρ : Env} {H : Heap} {w : World} {t b off : Nat} {av : AV} (h : aload te H t b off = some av) (hr : Rel B ρ H w)
    {cb co cc : Nat} (hb : ρ b = .at_ cb co cc) : ∃ cv, (loadVar t ⟨cb, co + off, none⟩).run P w = .ok cv w ∧ CA ρ av cv := by
  unfold aload at h
  split at h
  · rename_i ti x hti hx
    have ht := hte t ti hti
    by_cases ha : ti.isAgg = true
    · simp only [ha, if_true] at h
      split at h
      · rename_i hle
        injection h with h; subst h
        obtain ⟨vs, h1, h2, h3⟩ := hr.row hb hx off ti.size hle
        refine ⟨.agg vs.toArray, ?_, vs, h1, rfl⟩
        have := run_loadCells' (P := P) w cb (co + off) vs (fun j v hj => by have := h3 j v hj; rwa [← Nat.add_assoc] at this)
        simp only [loadVar, Sem.run_bind, ht.isAgg, Result.andThen_ok, ha, if_true, ht.sizeOf, Sem.run_pure]
        rw [← h2, this]
        rfl
      · cases h
    · simp only [Bool.not_eq_true] at ha
      simp only [ha] at h
      cases hc : x.cells[off]? with
      | none => rw [hc] at h; cases h
      | some sv =>
        rw [hc] at h
        simp at h; subst h
        obtain ⟨v, h1, h2⟩ := hr.cell hb hx hc
        exact ⟨v, by simp [loadVar, ht.isAgg, ha, h1], h2⟩
  · cases h

/-- the cells that do not change any more, as values -/
theorem MS_vals {ρ : Env} : ∀ {l : List SV} {cb co : Nat}, MS ρ cb co l → ∃ vs : List Value, Al2 (CS ρ) l vs ∧ vs.length = l.length ∧ ∀ j v, vs[j]? = some v → ρ.mem cb (co + j) = some v
  | [], _, _, _ => ⟨[], trivial, rfl, by simp⟩
  | x :: l, cb, co, h => by
    simp only [MS] at h
    obtain ⟨⟨v, h1, h2⟩, _, h3⟩ := h
    obtain ⟨vs, h4, h5, h6⟩ := MS_vals h3
    refine ⟨v :: vs, ⟨h2, h4⟩, by simp [h5], fun j u hj => ?_⟩
    cases j with
    | zero => simp at hj; subst hj; exact h1
    | succ j => rw [show co + (j + 1) = co + 1 + j by omega]; exact h6 j u (by simpa using hj)

def aloadV (te : Nat → Option TI) (t : Nat) (cells : List SV) : Option AV :=
  match te t with
  | some ti =>
    if ti.isAgg then (if ti.size ≤ cells.length then some (.agg (cells.take ti.size)) else none)
    else (cells[0]?).map .s
  | _ => none

theorem aloadV_ok {P : Program} {te : Nat → Option TI} (hte : TEok P te) {B : Nat} {ρ : Env} {H : Heap} {w : World} {t : Nat} {cells : List SV} {av : AV} (h : aloadV te t cells = some av) (hr : Rel B ρ H w)
    {cb co : Nat} (hb : MS ρ cb co cells) : ∃ cv, (loadVar t ⟨cb, co, none⟩).run P w = .ok cv w ∧ CA ρ av cv := by
  unfold aloadV at h
  split at h
  · rename_i ti hti
    have ht := hte t ti hti
    by_cases ha : ti.isAgg = true
    · simp only [ha, if_true] at h
      split at h
      · rename_i hle
        injection h with h; subst h
        obtain ⟨vs, h1, h2, h3⟩ := MS_vals (MS_take hb ti.size)
        refine ⟨.agg vs.toArray, ?_, vs, h1, rfl⟩
        have hrun := run_loadCells' (P := P) w cb co vs (fun j v hj => (hr.imm _ _ _ (h3 j v hj)).1)
        have hl : vs.length = ti.size := by rw [h2, List.length_take]; omega
        simp only [loadVar, Sem.run_bind, ht.isAgg, Result.andThen_ok, ha, if_true, ht.sizeOf, Sem.run_pure]
        rw [← hl, hrun]
        rfl
      · cases h
    · simp only [Bool.not_eq_true] at ha
      simp only [ha] at h
      cases hc : cells[0]? with
      | none => rw [hc] at h; cases h
      | some sv =>
        rw [hc] at h
        simp at h; subst h
        obtain ⟨v, h1, h2, _⟩ := MS_get hb hc
        have h1 := (hr.imm _ _ _ h1).1
        exact ⟨v, by simp [loadVar, ht.isAgg, ha] at h1 ⊢; simp [h1], h2⟩
  · cases h

/-! ### Stores -/
theorem scal_oneCell {v : Value} (h : scal v = true) : v.oneCell' = true := by
  cases v <;> first | rfl | simp [scal] at h

theorem setCell_heap (w : World) (cb j : Nat) (v : Value) {C : Array Value} {T : TypeId} {fz : Nat × Nat} (h : w.heap[cb]? = some (.cells C T fz)) :
    (w.setCell ⟨cb, j, none⟩ v).heap[cb]? = some (.cells (C.setIfInBounds j v) T fz) := by
  simp [World.setCell, Array.getElem?_modify, h]

/-- One cell stored: within the window, or right behind it. -/
theorem Rel.set1g {P : Program} {B : Nat} {ρ : Env} {H : Heap} {w : World} (h : Rel B ρ H w) {b cb co cc : Nat} {x : Blk} (hb : ρ b = .at_ cb co cc) (hx : H.m b = some x) (hw : x.wr = true)
    {j : Nat} {u : Value} (hcell : w.cell? ⟨cb, co + j, none⟩ = some u) {sv : SV} {v : Value} (hv : CS ρ sv v) (xs' : List SV) (hxs : ∀ i s, xs'[i]? = some s → (i = j → s = sv) ∧ (i ≠ j → x.cells[i]? = some s)) :
    ∃ w', (store ⟨cb, co + j, none⟩ v).run P w = .ok () w' ∧ Rel B ρ (H.set b (some { x with cells := xs' })) w' ∧
      Step ρ H w ρ (H.set b (some { x with cells := xs' })) w' ∧ (∀ k, (w'.cell? ⟨cb, k, none⟩).isSome = (w.cell? ⟨cb, k, none⟩).isSome) := by
  obtain ⟨C, T, fz, h1, h2, h3, h4⟩ := h.blk b cb co cc x hb hx
  obtain ⟨rfl, hBc⟩ := h3 hw
  have hfr : w.frozen? ⟨cb, co + j, none⟩ = false := by simp [World.frozen?, h1]
  have hcb : cb < w.heap.size := (Array.getElem?_eq_some_iff.1 h1).1
  have hother : ∀ k, k ≠ cb → (w.setCell ⟨cb, co + j, none⟩ v).heap[k]? = w.heap[k]? := fun k hk => Below.heap_setCell w ⟨cb, co + j, none⟩ v k hk
  have h5 : C[co + j]? = some u := by simpa [World.cell?, h1] using hcell
  have hlt : co + j < C.size := (Array.getElem?_eq_some_iff.1 h5).1
  have hown : ∀ k, Own ρ (H.set b (some { x with cells := xs' })) k → Own ρ H k := by
    rintro k ⟨b', co', cc', x', g1, g2, g3⟩
    by_cases e : b' = b
    · subst e; rw [Heap.set_same] at g2; cases g2; exact ⟨b', co', cc', x, g1, hx, hw⟩
    · rw [Heap.set_ne _ _ _ e] at g2; exact ⟨b', co', cc', x', g1, g2, g3⟩
  refine ⟨w.setCell ⟨cb, co + j, none⟩ v, ?_, and_assoc.1 ⟨h.with ⟨⟨by simpa using h.hB, h.fresh, ?_, ?_, ?_⟩, ?_⟩, ?_⟩⟩
  · have := run_store P w ⟨cb, co + j, none⟩ v .plain (scal_oneCell hv.scal)
    simp [hcell, hfr] at this
    exact this
  · intro b' x' hb'
    by_cases e : b' = b
    · subst e; exact h.live _ _ hx
    · rw [Heap.set_ne _ _ _ e] at hb'; exact h.live _ _ hb'
  · intro b' cb' co' cc' x' g1 g2
    by_cases e : b' = b
    · subst e
      rw [Heap.set_same] at g2; cases g2
      rw [hb] at g1; cases g1
      refine ⟨C.setIfInBounds (co + j) v, T, (0, 0), setCell_heap w _ _ _ h1, ?_, fun _ => ⟨rfl, hBc⟩, fun he => by simpa using h4 he⟩
      intro i s hi
      obtain ⟨k1, k2⟩ := hxs i s hi
      by_cases eij : i = j
      · subst eij
        obtain rfl := k1 rfl
        exact ⟨v, by simp [hlt], hv⟩
      · obtain ⟨u', h6, h7⟩ := h2 i s (k2 eij)
        exact ⟨u', by rw [Array.getElem?_setIfInBounds_ne (by omega)]; exact h6, h7⟩
    · rw [Heap.set_ne _ _ _ e] at g2
      have hne : cb' ≠ cb := fun e' => by
        subst e'
        have := (h.sep b' b cb' co' cc' co cc x' x e g1 hb g2 hx).2
        rw [hw] at this; cases this
      exact (h.blk b' cb' co' cc' x' g1 g2).mono (Le.refl _) (hother _ hne)
  · intro b1 b2 k co1 cc1 co2 cc2 x1 x2 hne g1 g2 g3 g4
    have key : ∀ (b' : Nat) (x' : Blk), (H.set b (some { x with cells := xs' })).m b' = some x' → ∃ x'' : Blk, H.m b' = some x'' ∧ x''.wr = x'.wr := by
      intro b' x' hh
      by_cases e : b' = b
      · subst e; rw [Heap.set_same] at hh; cases hh; exact ⟨x, hx, rfl⟩
      · rw [Heap.set_ne _ _ _ e] at hh; exact ⟨x', hh, rfl⟩
    obtain ⟨y1, k1, k2⟩ := key _ _ g3
    obtain ⟨y2, k3, k4⟩ := key _ _ g4
    have := h.sep b1 b2 k co1 cc1 co2 cc2 y1 y2 hne g1 g2 k1 k3
    rw [← k2, ← k4]; exact this
  · refine ⟨rfl, rfl, rfl, by simp, ?_, fun k hk => .inl (hown k hk), Le.refl _, fun b cb co cc e e' => by (rw [e] at e'; cases e'), Nat.le_refl _, fun _ _ h => h, fun _ _ _ h => .inl h⟩
    intro k hk hno
    refine hother k fun e => hno ?_
    subst e
    exact ⟨b, co, cc, x, hb, hx, hw⟩
  · intro k
    have : (w.setCell ⟨cb, co + j, none⟩ v).cell? ⟨cb, k, none⟩ = (C.setIfInBounds (co + j) v)[k]? := by
      simp [World.cell?, setCell_heap w _ _ _ h1]
    rw [this]
    have : w.cell? ⟨cb, k, none⟩ = C[k]? := by simp [World.cell?, h1]
    rw [this]
    simp [Array.getElem?_setIfInBounds]
    split <;> simp_all

/-- One cell stored. -/
theorem Rel.set1 {P : Program} {B : Nat} {ρ : Env} {H : Heap} {w : World} (h : Rel B ρ H w) {b cb co cc : Nat} {x : Blk} (hb : ρ b = .at_ cb co cc) (hx : H.m b = some x) (hw : x.wr = true)
    {j : Nat} (hj : j < x.cells.length) {sv : SV} {v : Value} (hv : CS ρ sv v) :
    ∃ w', (store ⟨cb, co + j, none⟩ v).run P w = .ok () w' ∧ Rel B ρ (H.set b (some { x with cells := x.cells.set j sv })) w' ∧
      Step ρ H w ρ (H.set b (some { x with cells := x.cells.set j sv })) w' := by
  obtain ⟨u, hu, _⟩ := h.cell hb hx (List.getElem?_eq_getElem hj)
  obtain ⟨w', h1, h2, h3, _⟩ := h.set1g (P := P) hb hx hw hu hv (x.cells.set j sv) (fun i s hi => by
    by_cases e : i = j
    · subst e; rw [List.getElem?_set_self hj] at hi; cases hi; exact ⟨fun _ => rfl, fun h => absurd rfl h⟩
    · rw [List.getElem?_set_ne (by omega)] at hi; exact ⟨fun h => absurd h e, fun _ => hi⟩)
  exact ⟨w', h1, h2, h3⟩

def setAll : List SV → Nat → List SV → List SV
  | cs, _, [] => cs
  | cs, i, v :: vs => setAll (cs.set i v) (i + 1) vs

@[simp] theorem setAll_length : ∀ (vs cs : List SV) (i : Nat), (setAll cs i vs).length = cs.length
  | [], _, _ => rfl
  | _ :: vs, _, _ => by simp [setAll, setAll_length vs]

theorem Heap.set_set (H : Heap) (b : Nat) (x y : Option Blk) : (H.set b x).set b y = H.set b y := by
  simp only [Heap.set, Heap.mk.injEq, and_true]
  funext k
  by_cases e : k = b <;> simp [e]

theorem Heap.set_self (H : Heap) {b : Nat} {x : Option Blk} (h : H.m b = x) : H.set b x = H := by
  cases H
  simp only [Heap.set, Heap.mk.injEq, and_true]
  funext k
  by_cases e : k = b
  · subst e; simp at h; simp [h]
  · simp [e]

/-- Many cells stored. -/
theorem Rel.setMany {P : Program} {B : Nat} {ρ : Env} (b cb co cc : Nat) (hb : ρ b = .at_ cb co cc) : ∀ (svs : List SV) (vs : List Value) (H : Heap) (w : World) (x : Blk) (i base : Nat), Rel B ρ H w → H.m b = some x → x.wr = true →
    base + i + svs.length ≤ x.cells.length → Al2 (CS ρ) svs vs →
    ∃ w', (storeCells ⟨cb, co + base, none⟩ vs i).run P w = .ok () w' ∧ Rel B ρ (H.set b (some { x with cells := setAll x.cells (base + i) svs })) w' ∧
      Step ρ H w ρ (H.set b (some { x with cells := setAll x.cells (base + i) svs })) w'
  | [], [], H, w, x, i, base, h, hx, hw, hl, _ => by
    have e : H.set b (some { x with cells := setAll x.cells (base + i) [] }) = H := Heap.set_self H hx
    rw [e]
    exact ⟨w, by simp [storeCells], h, Step.refl _ _ _⟩
  | sv :: svs, v :: vs, H, w, x, i, base, h, hx, hw, hl, hv => by
    have hj : base + i < x.cells.length := by simp at hl; omega
    obtain ⟨w1, h1, h2, h3⟩ := h.set1 (P := P) hb hx hw (j := base + i) hj hv.1
    obtain ⟨w2, h4, h5, h6⟩ := Rel.setMany (P := P) b cb co cc hb svs vs _ w1 { x with cells := x.cells.set (base + i) sv } (i + 1) base h2 (Heap.set_same _ _ _) hw (by simp at hl ⊢; omega) hv.2
    rw [Heap.set_set] at h5 h6
    refine ⟨w2, ?_, h5, h3.trans h6⟩
    have ea : (Addr.add ⟨cb, co + base, none⟩ i) = ⟨cb, co + (base + i), none⟩ := by rw [Addr.add_lit, Nat.add_assoc]
    simp only [storeCells, Sem.run_bind, ea, h1, Result.andThen_ok]
    exact h4
  | [], _ :: _, _, _, _, _, _, _, _, _, _, hv => hv.elim
  | _ :: _, [], _, _, _, _, _, _, _, _, _, hv => hv.elim

def AV.cells : AV → Option (List SV)
  | .s x => some [x]
  | .agg xs => some xs
  | _ => none

theorem CA.cells {ρ : Env} {av : AV} {v : Value} (h : CA ρ av v) {xs : List SV} (hx : av.cells = some xs) : ∃ vs : List Value, Al2 (CS ρ) xs vs ∧ v.cells.toList = vs := by
  cases av with
  | s x => injection hx with hx; subst hx; exact ⟨[v], ⟨h, trivial⟩, by rw [cells_scal (CS.scal h)]⟩
  | agg ys => injection hx with hx; subst hx; obtain ⟨vs, h1, rfl⟩ := h; exact ⟨vs, h1, rfl⟩
  | tup _ => cases hx
  | any => cases hx

def astore (te : Nat → Option TI) (H : Heap) (t b off : Nat) (av : AV) : Option Heap :=
  match te t, H.m b, av.cells with
  | some ti, some x, some vs => if x.wr = true ∧ vs.length = ti.size ∧ off + ti.size ≤ x.cells.length then some (H.set b (some { x with cells := setAll x.cells off vs })) else none
  | _, _, _ => none

theorem astore_ok {P : Program} {te : Nat → Option TI} (hte : TEok P te) {B : Nat} {ρ : Env} {H H' : Heap} {w : World} {t b off : Nat} {av : AV} {v : Value} (h : astore te H t b off av = some H') (hr : Rel B ρ H w)
    {cb co cc : Nat} (hb : ρ b = .at_ cb co cc) (hv : CA ρ av v) : ∃ w', (storeVar t ⟨cb, co + off, none⟩ v).run P w = .ok () w' ∧ Rel B ρ H' w' ∧ Step ρ H w ρ H' w' := by
  unfold astore at h
  split at h
  · rename_i ti x vs hti hx hvs
    split at h
    · rename_i hc
      obtain ⟨hw, hl, hle⟩ := hc
      injection h with h; subst h
      obtain ⟨cvs, h1, h2⟩ := hv.cells hvs
      have hlen := h1.length
      obtain ⟨w', h3, h4, h5⟩ := Rel.setMany (P := P) b cb co cc hb vs cvs H w x 0 off hr hx hw (by simp; omega) h1
      refine ⟨w', ?_, by simpa using h4, by simpa using h5⟩
      have hsz : v.cells.size = ti.size := by rw [← Array.length_toList, h2, ← hlen, hl]
      simp only [storeVar, Sem.run_bind, (hte t ti hti).sizeOf, Result.andThen_ok, hsz, h2]
      simpa using h3
    · cases h
  · cases h

/-! ### New blocks -/
def Env.put (ρ : Env) (b : Nat) (l : Loc) : Env := { ρ with loc := fun k => if k = b then l else ρ k }
@[simp] theorem Env.put_mem (ρ : Env) (b : Nat) (l : Loc) : (ρ.put b l).mem = ρ.mem := rfl
@[simp] theorem Env.put_same (ρ : Env) (b : Nat) (l : Loc) : ρ.put b l b = l := by simp [Env.put]
theorem Env.put_ne (ρ : Env) {b k : Nat} (l : Loc) (h : k ≠ b) : ρ.put b l k = ρ k := by simp [Env.put, h]

theorem Le.put {ρ : Env} {b : Nat} (l : Loc) (h : ρ b = .absent) : Le ρ (ρ.put b l) := ⟨fun k => by
  by_cases e : k = b
  · subst e; exact .inl h
  · exact .inr (.inl (Env.put_ne ρ l e)), fun _ _ _ h => h⟩

theorem Rel.new {B : Nat} {ρ : Env} {H : Heap} {w : World} (h : Rel B ρ H w) (svs : List SV) (C : Array Value) (T : TypeId) (esz cap : Nat) (hv : ∀ (j : Nat) (sv : SV), svs[j]? = some sv → ∃ v, C[j]? = some v ∧ CS ρ sv v) (hc : esz ≠ 0 → cap * esz ≤ C.size) :
    Rel B (ρ.put H.n (.at_ w.heap.size 0 cap)) (H.push { cells := svs, esz := esz, wr := true }) (w.alloc (.cells C T)) ∧
    Step ρ H w (ρ.put H.n (.at_ w.heap.size 0 cap)) (H.push { cells := svs, esz := esz, wr := true }) (w.alloc (.cells C T)) := by
  have habs : ρ H.n = .absent := h.fresh _ (Nat.le_refl _)
  have hle : Le ρ (ρ.put H.n (.at_ w.heap.size 0 cap)) := Le.put _ habs
  have hold : ∀ k, k < w.heap.size → (w.alloc (.cells C T)).heap[k]? = w.heap[k]? := fun k hk => Below.heap_alloc w _ k hk
  have hnew : (w.alloc (.cells C T)).heap[w.heap.size]? = some (.cells C T) := by show (w.heap.push _)[w.heap.size]? = _; simp
  have hltb : ∀ b cb co cc x, ρ b = .at_ cb co cc → H.m b = some x → cb < w.heap.size := fun b cb co cc x h1 h2 => by
    obtain ⟨_, _, _, h3, _⟩ := h.blk b cb co cc x h1 h2
    exact (Array.getElem?_eq_some_iff.1 h3).1
  refine h.with ⟨⟨by have := h.hB; simp; omega, ?_, ?_, ?_, ?_⟩, ⟨rfl, rfl, rfl, by simp, fun k hk _ => hold k hk, ?_, hle, ?_, by simp, fun b hb ha => by rw [Env.put_ne _ _ (by omega)]; exact ha, fun _ _ _ h => .inl h⟩⟩
  · intro b hb
    simp only [Heap.push_n] at hb
    rw [Env.put_ne _ _ (by omega)]
    exact h.fresh b (by omega)
  · intro b x hb
    by_cases e : b = H.n
    · subst e; simp
    · rw [Heap.push_ne _ _ e] at hb; rw [Env.put_ne _ _ e]; exact h.live b x hb
  · intro b cb co cc x g1 g2
    by_cases e : b = H.n
    · subst e
      rw [Heap.push_same] at g2; cases g2
      rw [Env.put_same] at g1; cases g1
      refine ⟨C, T, (0, 0), hnew, ?_, fun _ => ⟨rfl, h.hB⟩, fun he => by simpa using hc he⟩
      intro j sv hj
      obtain ⟨v, h1, h2⟩ := hv j sv hj
      exact ⟨v, by simpa using h1, h2.mono hle⟩
    · rw [Heap.push_ne _ _ e] at g2; rw [Env.put_ne _ _ e] at g1
      exact (h.blk b cb co cc x g1 g2).mono hle (hold _ (hltb _ _ _ _ _ g1 g2))
  · intro b b' cb co cc co' cc' x x' hne g1 g2 g3 g4
    by_cases e : b = H.n
    · subst e
      rw [Env.put_same] at g1; cases g1
      rw [Env.put_ne _ _ (Ne.symm hne)] at g2
      rw [Heap.push_ne _ _ (Ne.symm hne)] at g4
      exact absurd (hltb _ _ _ _ _ g2 g4) (by omega)
    · rw [Env.put_ne _ _ e] at g1
      rw [Heap.push_ne _ _ e] at g3
      by_cases e' : b' = H.n
      · subst e'
        rw [Env.put_same] at g2; cases g2
        exact absurd (hltb _ _ _ _ _ g1 g3) (by omega)
      · rw [Env.put_ne _ _ e'] at g2
        rw [Heap.push_ne _ _ e'] at g4
        exact h.sep b b' cb co cc co' cc' x x' hne g1 g2 g3 g4
  · rintro k ⟨b, co, cc, x, g1, g2, g3⟩
    by_cases e : b = H.n
    · subst e; rw [Env.put_same] at g1; cases g1; exact .inr (Nat.le_refl _)
    · rw [Env.put_ne _ _ e] at g1; rw [Heap.push_ne _ _ e] at g2
      exact .inl ⟨b, co, cc, x, g1, g2, g3⟩
  · intro b cb co cc g1 g2
    by_cases e : b = H.n
    · subst e; rw [Env.put_same] at g2; cases g2; exact .inr (Nat.le_refl _)
    · rw [Env.put_ne _ _ e] at g2; rw [g1] at g2; cases g2

end Go.Abs
/-
  append on the abstract heap: the slice that is appended to is given up for a new one.
-/
namespace Go.Abs
set_option linter.unusedVariables false
set_option linter.unusedSimpArgs false
open Go.RowKit

theorem Rel.kill {B : Nat} {ρ : Env} {H : Heap} {w : World} (h : Rel B ρ H w) {b : Nat} (hb : ρ b ≠ .absent) :
    Rel B (ρ.put b .dead) (H.set b none) w ∧ Step ρ H w (ρ.put b .dead) (H.set b none) w := by
  have hlt := h.lt hb
  have hle : Le ρ (ρ.put b .dead) := ⟨fun k => by
    by_cases e : k = b
    · subst e; exact .inr (.inr (Env.put_same _ _ _))
    · exact .inr (.inl (Env.put_ne _ _ e)), fun _ _ _ h => h⟩
  have hold : ∀ b' cb co cc, (ρ.put b .dead) b' = .at_ cb co cc → b' ≠ b ∧ ρ b' = .at_ cb co cc := fun b' cb co cc hh => by
    by_cases e : b' = b
    · subst e; rw [Env.put_same] at hh; cases hh
    · rw [Env.put_ne _ _ e] at hh; exact ⟨e, hh⟩
  have hm : ∀ b' x, (H.set b none).m b' = some x → b' ≠ b ∧ H.m b' = some x := fun b' x hh => by
    by_cases e : b' = b
    · subst e; rw [Heap.set_same] at hh; cases hh
    · rw [Heap.set_ne _ _ _ e] at hh; exact ⟨e, hh⟩
  refine h.with ⟨⟨h.hB, ?_, ?_, ?_, ?_⟩, ⟨rfl, rfl, rfl, Nat.le_refl _, fun _ _ _ => rfl, ?_, hle, ?_, Nat.le_refl _, fun b' hb' ha => by
    by_cases e : b' = b
    · subst e; exact absurd ha hb
    · rw [Env.put_ne _ _ e]; exact ha, fun _ _ _ h => .inl h⟩⟩
  · intro b' hb'
    simp only [Heap.set_n] at hb'
    rw [Env.put_ne _ _ (by omega)]
    exact h.fresh b' hb'
  · intro b' x hx
    obtain ⟨e, hx'⟩ := hm b' x hx
    rw [Env.put_ne _ _ e]; exact h.live b' x hx'
  · intro b' cb co cc x g1 g2
    obtain ⟨_, g1'⟩ := hold _ _ _ _ g1
    obtain ⟨_, g2'⟩ := hm _ _ g2
    exact (h.blk b' cb co cc x g1' g2').mono hle rfl
  · intro b1 b2 k co1 cc1 co2 cc2 x1 x2 hne g1 g2 g3 g4
    exact h.sep b1 b2 k co1 cc1 co2 cc2 x1 x2 hne (hold _ _ _ _ g1).2 (hold _ _ _ _ g2).2 (hm _ _ g3).2 (hm _ _ g4).2
  · rintro k ⟨b', co, cc, x, g1, g2, g3⟩
    exact .inl ⟨b', co, cc, x, (hold _ _ _ _ g1).2, (hm _ _ g2).2, g3⟩
  · intro b' cb co cc g1 g2
    rw [(hold _ _ _ _ g2).2] at g1; cases g1

/-- The block goes on under a new number. -/
theorem Rel.moved {B : Nat} {ρ : Env} {H : Heap} {w : World} (h : Rel B ρ H w) {b cb co cc : Nat} {x : Blk} (hb : ρ b = .at_ cb co cc) (hx : H.m b = some x) (hw : x.wr = true) :
    Rel B ((ρ.put b .dead).put H.n (.at_ cb co cc)) ((H.set b none).push x) w ∧ Step ρ H w ((ρ.put b .dead).put H.n (.at_ cb co cc)) ((H.set b none).push x) w := by
  obtain ⟨h1, s1⟩ := h.kill (b := b) (by rw [hb]; simp)
  have hlt := h.lt (b := b) (by rw [hb]; simp)
  have habs : (ρ.put b .dead) H.n = .absent := by rw [Env.put_ne _ _ (by omega)]; exact h.fresh _ (Nat.le_refl _)
  have hle : Le (ρ.put b .dead) ((ρ.put b .dead).put H.n (.at_ cb co cc)) := Le.put _ habs
  have hblk := (h.blk b cb co cc x hb hx).mono (s1.le.trans hle) rfl
  have nocb : ∀ b' co' cc' x', (ρ.put b .dead) b' = .at_ cb co' cc' → (H.set b none).m b' = some x' → False := fun b' co' cc' x' g1 g2 => by
    by_cases e : b' = b
    · subst e; rw [Env.put_same] at g1; cases g1
    · rw [Env.put_ne _ _ e] at g1; rw [Heap.set_ne _ _ _ e] at g2
      have := (h.sep b' b cb co' cc' co cc x' x e g1 hb g2 hx).2
      rw [hw] at this; cases this
  have hn : (H.set b none).n = H.n := rfl
  refine h.with ⟨⟨h.hB, ?_, ?_, ?_, ?_⟩, ⟨rfl, rfl, rfl, Nat.le_refl _, fun _ _ _ => rfl, ?_, s1.le.trans hle, ?_, by simp, fun b' hb' ha => by
    rw [Env.put_ne _ _ (by omega)]; exact s1.abs b' hb' ha, fun _ _ _ h => .inl h⟩⟩
  · intro b' hb'
    simp only [Heap.push_n, Heap.set_n] at hb'
    rw [Env.put_ne _ _ (by omega)]
    exact h1.fresh b' (by simp; omega)
  · intro b' y hy
    by_cases e : b' = H.n
    · subst e; simp
    · rw [Heap.push_ne _ _ (by simpa using e)] at hy; rw [Env.put_ne _ _ e]; exact h1.live b' y hy
  · intro b' cb' co' cc' y g1 g2
    by_cases e : b' = H.n
    · subst e
      rw [Env.put_same] at g1; cases g1
      have : (Heap.push (H.set b none) x).m H.n = some x := Heap.push_same (H.set b none) x
      rw [this] at g2; cases g2
      exact hblk
    · rw [Heap.push_ne _ _ (by simpa using e)] at g2; rw [Env.put_ne _ _ e] at g1
      exact (h1.blk b' cb' co' cc' y g1 g2).mono hle rfl
  · intro b1 b2 k co1 cc1 co2 cc2 x1 x2 hne g1 g2 g3 g4
    by_cases e : b1 = H.n
    · subst e
      rw [Env.put_same] at g1; cases g1
      rw [Env.put_ne _ _ (Ne.symm hne)] at g2
      rw [Heap.push_ne _ _ (by simpa using Ne.symm hne)] at g4
      exact (nocb _ _ _ _ g2 g4).elim
    · rw [Env.put_ne _ _ e] at g1
      rw [Heap.push_ne _ _ (by simpa using e)] at g3
      by_cases e' : b2 = H.n
      · subst e'
        rw [Env.put_same] at g2; cases g2
        exact (nocb _ _ _ _ g1 g3).elim
      · rw [Env.put_ne _ _ e'] at g2
        rw [Heap.push_ne _ _ (by simpa using e')] at g4
        exact h1.sep b1 b2 k co1 cc1 co2 cc2 x1 x2 hne g1 g2 g3 g4
  · rintro k ⟨b', co', cc', y, g1, g2, g3⟩
    by_cases e : b' = H.n
    · subst e; rw [Env.put_same] at g1; cases g1; exact .inl ⟨b, co, cc, x, hb, hx, hw⟩
    · rw [Env.put_ne _ _ e] at g1; rw [Heap.push_ne _ _ (by simpa using e)] at g2
      exact s1.own k ⟨b', co', cc', y, g1, g2, g3⟩
  · intro b' cb' co' cc' g1 g2
    by_cases e : b' = H.n
    · subst e; rw [Env.put_same] at g2; cases g2; exact .inl ⟨b, co, cc, x, hb, hx, hw⟩
    · rw [Env.put_ne _ _ e] at g2; exact s1.new b' cb' co' cc' g1 g2

/-- A block is written no more: its cells are memory that does not change. -/
theorem Rel.freeze {B : Nat} {ρ : Env} {H : Heap} {w : World} (h : Rel B ρ H w) {b cb co cc : Nat} {x : Blk} (hb : ρ b = .at_ cb co cc) (hx : H.m b = some x) (hw : x.wr = true) (hp : ∀ sv ∈ x.cells, pers sv = true) :
    ∃ ρ', Rel B ρ' (H.set b none) w ∧ Step ρ H w ρ' (H.set b none) w ∧ MS ρ' cb co x.cells := by
  obtain ⟨C, T, fz, hC1, hC2, hC3, hC4⟩ := h.blk b cb co cc x hb hx
  have hown : Own ρ H cb := ⟨b, co, cc, x, hb, hx, hw⟩
  have hno : ∀ j v, ρ.mem cb j ≠ some v := fun j v hm => (h.imm cb j v hm).2 hown
  obtain ⟨h1, s1⟩ := h.kill (b := b) (by rw [hb]; simp)
  let m' : Nat → Nat → Option Value := fun cb' j => if cb' = cb then C[j]? else ρ.mem cb' j
  have hm : ∀ cb' j v, ρ.mem cb' j = some v → m' cb' j = some v := fun cb' j v hv => by
    by_cases e : cb' = cb
    · subst e; exact absurd hv (hno j v)
    · simp only [m', e, if_false]; exact hv
  have hle : Le (ρ.put b .dead) { (ρ.put b .dead) with mem := m' } := ⟨fun _ => .inr (.inl rfl), hm⟩
  have nocb : ¬ Own (ρ.put b .dead) (H.set b none) cb := by
    rintro ⟨b', co', cc', x', g1, g2, g3⟩
    by_cases e : b' = b
    · subst e; rw [Env.put_same] at g1; cases g1
    · rw [Env.put_ne _ _ e] at g1; rw [Heap.set_ne _ _ _ e] at g2
      have := (h.sep b' b cb co' cc' co cc x' x e g1 hb g2 hx).2
      rw [hw] at this; cases this
  refine ⟨{ (ρ.put b .dead) with mem := m' }, ⟨⟨h1.hB, h1.fresh, h1.live, fun b' cb' co' cc' x' g1 g2 => (h1.blk b' cb' co' cc' x' g1 g2).mono hle rfl, h1.sep⟩, ?_⟩,
    ⟨s1.os, s1.tape, s1.output, s1.size, s1.keep, s1.own, s1.le.trans hle, s1.new, s1.n, s1.abs, fun cb' j v hv => ?_⟩, MS_of fun j sv hj => ?_⟩
  · intro cb' j v hv
    by_cases e : cb' = cb
    · subst e
      refine ⟨?_, nocb⟩
      simp only [m', if_true] at hv
      simp [World.cell?, hC1, hv]
    · simp only [m', e, if_false] at hv
      exact h1.imm cb' j v hv
  · by_cases e : cb' = cb
    · subst e; exact .inr (.inl hown)
    · simp only [m', e, if_false] at hv; exact .inl hv
  · obtain ⟨v, h2, h3⟩ := hC2 j sv hj
    exact ⟨v, by simp only [m', if_true]; exact h2, pers_mono hm (hp sv (List.mem_of_getElem? hj)) h3, hp sv (List.mem_of_getElem? hj)⟩

/-- Cells stored right behind the window. -/
theorem Rel.extendMany {P : Program} {B : Nat} {ρ : Env} (b cb co cc : Nat) (hb : ρ b = .at_ cb co cc) : ∀ (svs : List SV) (vs : List Value) (H : Heap) (w : World) (x : Blk) (i base : Nat), Rel B ρ H w → H.m b = some x → x.wr = true →
    base + i = co + x.cells.length → (∀ j, j < svs.length → (w.cell? ⟨cb, base + i + j, none⟩).isSome = true) → Al2 (CS ρ) svs vs →
    ∃ w', (storeCells ⟨cb, base, none⟩ vs i).run P w = .ok () w' ∧ Rel B ρ (H.set b (some { x with cells := x.cells ++ svs })) w' ∧
      Step ρ H w ρ (H.set b (some { x with cells := x.cells ++ svs })) w'
  | [], [], H, w, x, i, base, h, hx, hw, hl, hc, _ => by
    have e : H.set b (some { x with cells := x.cells ++ [] }) = H := Heap.set_self H (by simpa using hx)
    rw [e]
    exact ⟨w, by simp [storeCells], h, Step.refl _ _ _⟩
  | sv :: svs, v :: vs, H, w, x, i, base, h, hx, hw, hl, hc, hv => by
    obtain ⟨u, hu⟩ := Option.isSome_iff_exists.1 (hc 0 (by simp))
    have hu' : w.cell? ⟨cb, co + x.cells.length, none⟩ = some u := by rw [← hl]; simpa using hu
    obtain ⟨w1, h1, h2, h3, hcc⟩ := h.set1g (P := P) hb hx hw hu' hv.1 (x.cells ++ [sv]) (fun k s hk => by
      by_cases e : k < x.cells.length
      · rw [List.getElem?_append_left e] at hk; exact ⟨fun e' => by omega, fun _ => hk⟩
      · rw [List.getElem?_append_right (by omega)] at hk
        have : k - x.cells.length = 0 := by
          have := (List.getElem?_eq_some_iff.1 hk).1
          simp at this; omega
        rw [this] at hk
        simp at hk
        exact ⟨fun _ => hk.symm, fun e' => by omega⟩)
    obtain ⟨w2, h4, h5, h6⟩ := Rel.extendMany (P := P) b cb co cc hb svs vs _ w1 { x with cells := x.cells ++ [sv] } (i + 1) base h2 (Heap.set_same _ _ _) hw (by simp; omega)
      (fun j hj => by
        have := hc (j + 1) (by simp; omega)
        rw [hcc]
        rw [show base + (i + 1) + j = base + i + (j + 1) from by omega]; exact this) hv.2
    rw [Heap.set_set] at h5 h6
    simp only [List.append_assoc, List.singleton_append] at h5 h6
    refine ⟨w2, ?_, h5, h3.trans h6⟩
    have ea : (Addr.add ⟨cb, base, none⟩ i) = ⟨cb, co + x.cells.length, none⟩ := by rw [Addr.add_lit, hl]
    simp only [storeCells, Sem.run_bind, ea, h1, Result.andThen_ok]
    exact h4
  | [], _ :: _, _, _, _, _, _, _, _, _, _, _, hv => hv.elim
  | _ :: _, [], _, _, _, _, _, _, _, _, _, _, hv => hv.elim

/-- What is appended: how many elements, and their cells. -/
def asrc (te : Nat → Option TI) (H : Heap) (e xt : Nat) (x : AV) : Option (Nat × List SV) :=
  match te e, te xt, x with
  | some ti, some ⟨_, _, .sli _, _, _⟩, .s (.raw (.slice none 0 0)) => some (0, [])
  | some ti, some ⟨_, _, .sli _, _, _⟩, .s (.sl b off n _) =>
    match H.m b with
    | some blk => if off + n * ti.size ≤ blk.cells.length then some (n, (blk.cells.drop off).take (n * ti.size)) else none
    | none => none
  | some ti, some ⟨_, _, .sli _, _, _⟩, .s (.vs n cells) => if cells.length = n * ti.size then some (n, cells) else none
  | some ti, some ⟨_, _, .sli _, _, _⟩, .s .ve => some (0, [])
  | _, _, _ => none

def aappend (te : Nat → Option TI) (H : Heap) (st xt : Nat) (s x : AV) : Option (AV × Heap) :=
  match te st with
  | some ⟨_, _, .sli e, _, _⟩ =>
    match te e, asrc te H e xt x with
    | some ti, some (n, news) =>
      match s with
      | .s (.raw (.slice none 0 0)) =>
        if n = 0 then some (s, H)
        else if n * ti.bytes ≤ 70368744177664 ∧ ti.bytes ≠ 0 then some (.s (.sl H.n 0 n true), H.push { cells := news, esz := ti.size, wr := true })
        else none
      | .s (.sl b 0 len true) =>
        match H.m b with
        | some blk =>
          if n = 0 then some (s, H)
          else if (len + n) * ti.bytes ≤ 70368744177664 ∧ ti.bytes ≠ 0 ∧ blk.wr = true ∧ blk.esz = ti.size ∧ ti.size ≠ 0 ∧ blk.cells.length = len * ti.size then
            some (.s (.sl H.n 0 (len + n) true), (H.set b none).push { blk with cells := blk.cells ++ news })
          else none
        | none => none
      | _ => none
    | _, _ => none
  | _ => none

/-- what the source's value is -/
theorem asrc_ok {P : Program} {te : Nat → Option TI} (hte : TEok P te) {B : Nat} {ρ : Env} {H : Heap} {w : World} (hr : Rel B ρ H w) {e xt : Nat} {ti : TI} (hti : te e = some ti) {x : AV} {xv : Value} (hx : CA ρ x xv)
    {n : Nat} {news : List SV} (h : asrc te H e xt x = some (n, news)) :
    ∃ (xe : Nat) (vs : List Value), P.underlying xt = some (.slice xe) ∧ Al2 (CS ρ) news vs ∧ vs.length = n * ti.size ∧ (∃ a c, xv = .slice a n c) ∧
      ∀ (d : Nat), (Builtin.firstCells ti.size n xv).run P { w with drawn := d } = .ok vs.toArray { w with drawn := d } := by
  unfold asrc at h
  split at h
  · rename_i ti' a1 b1 e1 c1 d1 hti' hxt
    rw [hti] at hti'; cases hti'
    injection h with h; cases h
    obtain ⟨rfl, _⟩ := hx
    have := (hte _ _ hxt).kind
    exact ⟨e1, [], this, trivial, by simp, ⟨none, 0, rfl⟩, fun d => by simp [Builtin.firstCells]⟩
  · rename_i ti' a1 b1 e1 c1 d1 b off n' gr hti' hxt
    rw [hti] at hti'; cases hti'
    have hk := (hte _ _ hxt).kind
    split at h
    · rename_i blk hblk
      split at h
      · rename_i hle
        injection h with h; cases h
        simp only [CA, CS, LC] at hx
        split at hx
        · exact hx.elim
        · rename_i hd; exact absurd hd (hr.live b blk hblk)
        · rename_i cb co cc hat
          have key : ∀ (o c : Nat), (n ≠ 0 → o = co + off) → xv = .slice (some ⟨cb, o, none⟩) n c → ∃ (xe : Nat) (vs : List Value), P.underlying xt = some (.slice xe) ∧ Al2 (CS ρ) (List.take (n * ti.size) (List.drop off blk.cells)) vs ∧ vs.length = n * ti.size ∧ (∃ a c, xv = .slice a n c) ∧
              ∀ (d : Nat), (Builtin.firstCells ti.size n xv).run P { w with drawn := d } = .ok vs.toArray { w with drawn := d } := by
            intro o c ho hxv
            obtain ⟨vs, h1, h2, h3⟩ := hr.row hat hblk off (n * ti.size) hle
            refine ⟨e1, vs, hk, h1, h2, ⟨_, _, hxv⟩, fun d => ?_⟩
            rw [hxv]
            by_cases hn : n = 0
            · subst hn
              have : vs = [] := by cases vs <;> simp_all
              subst this
              simp [Builtin.firstCells, loadCells, loadCellsFrom]
            · rw [ho hn]
              have hrun := run_loadCells' (P := P) { w with drawn := d } cb (co + off) vs (fun j v hj => by
                have := h3 j v hj
                rw [Nat.add_assoc]
                exact this)
              show (loadCells ⟨cb, co + off, none⟩ (n * ti.size)).run P _ = _
              rw [← h2]; exact hrun
          cases gr with
          | true => obtain ⟨ho, _, hv⟩ := hx; subst ho; exact key co cc (fun _ => rfl) hv
          | false => obtain ⟨c, o, _, ho, hv⟩ := hx; exact key o c ho hv
      · cases h
    · cases h
  · rename_i ti' a1 b1 e1 c1 d1 n' cells hti' hxt
    rw [hti] at hti'; cases hti'
    have hk := (hte _ _ hxt).kind
    split at h
    · rename_i hl
      injection h with h; cases h
      simp only [CA, CS] at hx
      obtain ⟨ad, c, cb, co, hxv, _, ha, _, hm⟩ := hx
      obtain ⟨vs, h1, h2, h3⟩ := MS_vals hm
      refine ⟨e1, vs, hk, h1, by rw [h2, hl], ⟨_, _, hxv⟩, fun d => ?_⟩
      rw [hxv]
      by_cases hn : n = 0
      · subst hn
        have : vs = [] := by cases vs <;> simp_all
        subst this
        cases ad <;> simp [Builtin.firstCells, loadCells, loadCellsFrom]
      · rw [ha hn]
        have hrun := run_loadCells' (P := P) { w with drawn := d } cb co vs (fun j v hj => (hr.imm _ _ _ (h3 j v hj)).1)
        show (loadCells ⟨cb, co, none⟩ (n * ti.size)).run P _ = _
        rw [← hl, ← h2]; exact hrun
    · cases h
  · rename_i ti' a1 b1 e1 c1 d1 hti' hxt
    rw [hti] at hti'; cases hti'
    injection h with h; cases h
    simp only [CA, CS] at hx
    obtain ⟨a, c, rfl⟩ := hx
    have := (hte _ _ hxt).kind
    exact ⟨e1, [], this, trivial, by simp, ⟨some a, c, rfl⟩, fun d => by simp [Builtin.firstCells, loadCells, loadCellsFrom]⟩
  · cases h

theorem nextcap_ok {need old bytes : Nat} (h : old < need) (hb : need * bytes ≤ 70368744177664) : ¬ (281474976710656 < Builtin.nextslicecap need old * bytes) := by
  have := growslice_fits (bytes := bytes) h (by omega)
  omega

theorem aappend_ok {P : Program} {te : Nat → Option TI} (hte : TEok P te) {B : Nat} {ρ : Env} {H H' : Heap} {w : World} (hr : Rel B ρ H w) {st xt ty : Nat} {s x r : AV} {sv xv : Value} (hs : CA ρ s sv) (hx : CA ρ x xv)
    (h : aappend te H st xt s x = some (r, H')) :
    ∃ rv w' ρ', (Builtin.append_ #[st, xt] ty #[sv, xv]).run P w = .ok rv w' ∧ CA ρ' r rv ∧ Rel B ρ' H' w' ∧ Step ρ H w ρ' H' w' := by
  unfold aappend at h
  split at h
  case h_2 => cases h
  rename_i _ _ e _ _ hst
  have hks : P.underlying st = some (.slice e) := (hte _ _ hst).kind
  split at h
  case h_2 => cases h
  rename_i ti n news hti hsrc
  obtain ⟨xe, vs, hkx, hvs, hvl, ⟨xa, xc, hxv⟩, hfc⟩ := asrc_ok hte hr hti hx hsrc
  obtain ⟨i, hi, hi1, hi2, z, hz, hz'⟩ := (hte _ _ hti).info
  have hnv : news.length = n * ti.size := by rw [hvs.length, hvl]
  split at h
  · -- the base is nil
    obtain ⟨rfl, _⟩ := hs
    by_cases hn : n = 0
    · subst hn
      simp only [if_true] at h
      injection h with h; cases h
      refine ⟨.slice none 0 0, w, ρ, ?_, ⟨rfl, rfl⟩, hr, Step.refl _ _ _⟩
      have hf := hfc w.drawn
      have hvs0 : vs = [] := by cases vs <;> simp_all
      subst hvs0 hxv
      simp [Builtin.append_, Go.run_underlying hks, Go.run_underlying hkx, sizeOf, typeInfo, hi, hi1, Builtin.lenOf, hf]
    · simp only [hn, if_false] at h
      split at h
      · rename_i hb
        obtain ⟨hb, hb0⟩ := hb
        injection h with h; cases h
        have h48' := nextcap_ok (need := n) (old := 0) (by omega) hb
        have hge := grownCap_ge w n 0 e
        have hf : (Builtin.firstCells ti.size n xv).run P w.drew = .ok vs.toArray w.drew := hfc (w.drawn + 1)
        have hzs : z.cells.size = ti.size := by rw [← Array.length_toList, hz', (hte _ _ hti).zsz]
        obtain ⟨hr', hstep'⟩ := (hr.drew (w.drawn + 1)).new news ((vs.toArray ++ Builtin.zeroCells z.cells (grownCap w n 0 e - n))) e ti.size (grownCap w n 0 e)
          (fun j sv hj => by
            obtain ⟨v, h1, h2⟩ := hvs.get hj
            refine ⟨v, ?_, h2⟩
            have hlt : j < vs.length := (List.getElem?_eq_some_iff.1 h1).1
            rw [Array.getElem?_append_left (by simpa using hlt)]
            simpa using h1)
          (fun _ => by
            rw [Array.size_append, size_zeroCells, hzs]
            simp only [List.size_toArray, hvl]
            rw [← Nat.add_mul]
            exact Nat.mul_le_mul_right _ (by omega))
        refine ⟨.slice (some ⟨w.heap.size, 0, none⟩) n (grownCap w n 0 e), _, _, ?_, ?_, hr', (Step.drew (w.drawn + 1)).trans hstep'⟩
        · subst hxv
          have h63' : ¬ (9223372036854775807 < (n : Int) ∧ ti.bytes = 0) := fun hh => hb0 hh.2
          simp [Builtin.append_, Go.run_underlying hks, Go.run_underlying hkx, sizeOf, typeInfo, zeroValue, hi, hi1, hi2, hz, Builtin.lenOf, hn, hb0, h48', Question.forced, run_firstCells_none, newRow, grownCap]
          rw [hf]
          rfl
        · simp [CA, CS, LC, hge]
      · cases h
  · rename_i b len
    split at h
    case h_2 => cases h
    rename_i blk hblk
    simp only [CA, CS, LC] at hs
    split at hs
    · exact hs.elim
    · rename_i hd; exact absurd hd (hr.live b blk hblk)
    rename_i cb co cc hat
    obtain ⟨_, hlc, rfl⟩ := hs
    by_cases hn : n = 0
    · subst hn
      simp only [if_true] at h
      injection h with h; cases h
      refine ⟨.slice (some ⟨cb, co, none⟩) len cc, w, ρ, ?_, ?_, hr, Step.refl _ _ _⟩
      · have hf := hfc w.drawn
        have hvs0 : vs = [] := by cases vs <;> simp_all
        subst hvs0 hxv
        simp [Builtin.append_, Go.run_underlying hks, Go.run_underlying hkx, sizeOf, typeInfo, hi, hi1, Builtin.lenOf, hf, hlc, storeCells]
      · simp [CA, CS, LC, hat, hlc]
    · simp only [hn, if_false] at h
      split at h
      case isFalse => cases h
      rename_i hb
      obtain ⟨hb, hb0, hwr, hesz, hsz0, hcl⟩ := hb
      injection h with h; cases h
      obtain ⟨C, T, fz, hC1, hC2, hC3, hC4⟩ := hr.blk b cb co cc blk hat hblk
      obtain ⟨rfl, _⟩ := hC3 hwr
      have hC4 := hC4 (by rw [hesz]; exact hsz0)
      rw [hesz] at hC4
      by_cases hroom : len + n ≤ cc
      · -- in place
        obtain ⟨hr1, hs1⟩ := hr.moved hat hblk hwr
        have hlt := hr.lt (b := b) (by rw [hat]; simp)
        have hm1 : (Heap.push (H.set b none) blk).m H.n = some blk := Heap.push_same (H.set b none) blk
        obtain ⟨w', h1, h2, h3⟩ := Rel.extendMany (P := P) H.n cb co cc (Env.put_same _ _ _) news vs _ w blk 0 (co + len * ti.size) hr1 hm1 hwr (by rw [hcl]; omega)
          (fun j hj => by
            have : len * ti.size + n * ti.size ≤ cc * ti.size := by rw [← Nat.add_mul]; exact Nat.mul_le_mul_right _ hroom
            have hlt' : co + len * ti.size + 0 + j < C.size := by omega
            simp only [World.cell?, hC1]
            simp
            omega)
          (hvs.mono fun _ _ hh => hh.mono hs1.le)
        have e : (Heap.push (H.set b none) blk).set H.n (some { blk with cells := blk.cells ++ news }) = (H.set b none).push { blk with cells := blk.cells ++ news } := by
          simp only [Heap.push, Heap.set, Heap.mk.injEq, and_true]
          funext k
          by_cases ek : k = H.n <;> simp [ek]
        rw [e] at h2 h3
        refine ⟨.slice (some ⟨cb, co, none⟩) (len + n) cc, w', _, ?_, ?_, h2, hs1.trans h3⟩
        · have hf := hfc w.drawn
          subst hxv
          have hco : Addr.add ⟨cb, co, none⟩ (len * ti.size) = ⟨cb, co + len * ti.size, none⟩ := Addr.add_lit _ _ _
          simp [Builtin.append_, Go.run_underlying hks, Go.run_underlying hkx, sizeOf, typeInfo, hi, hi1, Builtin.lenOf, hf, hroom, hco, h1]
        · simp [CA, CS, LC, hroom]
      · -- a new array
        have hge := grownCap_ge w (len + n) cc e
        have h48' := nextcap_ok (need := len + n) (old := cc) (by omega) hb
        have hf : (Builtin.firstCells ti.size n xv).run P w.drew = .ok vs.toArray w.drew := hfc (w.drawn + 1)
        have hzs : z.cells.size = ti.size := by rw [← Array.length_toList, hz', (hte _ _ hti).zsz]
        obtain ⟨olds, ho1, ho2, ho3⟩ := hr.row hat hblk 0 (len * ti.size) (by omega)
        have ho1' : Al2 (CS ρ) blk.cells olds := by
          have : List.take (len * ti.size) (List.drop 0 blk.cells) = blk.cells := by simp [← hcl]
          rw [this] at ho1; exact ho1
        have hfo : (Builtin.firstCells ti.size len (.slice (some ⟨cb, co, none⟩) len cc)).run P w.drew = .ok olds.toArray w.drew := by
          have hrun := run_loadCells' (P := P) w.drew cb co olds (fun j v hj => by
            have := ho3 j v hj
            simp at this; exact this)
          show (loadCells ⟨cb, co, none⟩ (len * ti.size)).run P _ = _
          rw [← ho2]; exact hrun
        obtain ⟨hr', hstep'⟩ := (hr.drew (w.drawn + 1)).new (blk.cells ++ news) ((olds.toArray ++ vs.toArray ++ Builtin.zeroCells z.cells (grownCap w (len + n) cc e - (len + n)))) e ti.size (grownCap w (len + n) cc e)
          (fun j sv hj => by
            obtain ⟨v, h1, h2⟩ := (ho1'.append hvs).get hj
            refine ⟨v, ?_, h2⟩
            have hlt : j < (olds ++ vs).length := (List.getElem?_eq_some_iff.1 h1).1
            rw [Array.getElem?_append_left (by simpa using hlt)]
            simpa using h1)
          (fun _ => by
            rw [Array.size_append, Array.size_append, size_zeroCells, hzs]
            simp only [List.size_toArray, hvl, ho2]
            rw [← Nat.add_mul, ← Nat.add_mul]
            exact Nat.mul_le_mul_right _ (by omega))
        have hlt := hr.lt (b := b) (by rw [hat]; simp)
        obtain ⟨hr2, hs2⟩ := hr'.kill (b := b) (by rw [Env.put_ne _ _ (by omega)]; rw [hat]; simp)
        have heq : (H.push { cells := blk.cells ++ news, esz := ti.size, wr := true }).set b none = (H.set b none).push { blk with cells := blk.cells ++ news } := by
          have : ({ cells := blk.cells ++ news, esz := ti.size, wr := true } : Blk) = { blk with cells := blk.cells ++ news } := by rw [← hesz, ← hwr]
          rw [this]
          simp only [Heap.push, Heap.set, Heap.mk.injEq, and_true]
          funext k
          by_cases ek : k = b
          · subst ek; simp [show ¬ k = H.n from by omega]
          · by_cases ek' : k = H.n
            · subst ek'; simp [show ¬ H.n = b from by omega]
            · simp [ek, ek']
        rw [heq] at hr2 hs2
        refine ⟨.slice (some ⟨w.heap.size, 0, none⟩) (len + n) (grownCap w (len + n) cc e), _, _, ?_, ?_, hr2, ((Step.drew (w.drawn + 1)).trans hstep').trans hs2⟩
        · subst hxv
          simp [Builtin.append_, Go.run_underlying hks, Go.run_underlying hkx, sizeOf, typeInfo, zeroValue, hi, hi1, hi2, hz, Builtin.lenOf, hroom, hb0, h48', Question.forced, newRow, grownCap]
          rw [hfo]
          simp only [Result.andThen_ok]
          rw [hf]
          simp only [Result.andThen_ok]
          congr 2
          refine congrArg (fun x => Obj.cells x e) ?_
          apply Array.ext'
          simp [List.append_assoc]
        · simp only [CA, CS, LC]
          rw [Env.put_ne _ _ (by omega), Env.put_same]
          exact ⟨trivial, hge, rfl⟩
  · cases h
end Go.Abs
/-
  One operation on the abstract heap.
-/
namespace Go.Abs
set_option linter.unusedVariables false
set_option linter.unusedSimpArgs false
open Go.RowKit

abbrev Slots := Nat → AV

def ev (σ : Slots) : Operand → AV
  | .tmp t => σ t
  | .const v => if scal v = true then .s (.raw v) else .any
  | .func f => .s (.fn f [])
  | .global _ => .any

def Upd (σ : Slots) (d : Option Tmp) (v : AV) : Slots :=
  match d with
  | some d => fun t => if t = d then v else σ t
  | none => σ

def SlotsR (ρ : Env) (σ : Slots) (tmps : Array Value) : Prop := ∀ t, t < tmps.size → CA ρ (σ t) (tmps.getD t undef)

theorem ev_ok {ρ : Env} {σ : Slots} {a : Act} {x : Operand} (h : ∀ t, x = .tmp t → CA ρ (σ t) (a.tmps.getD t undef)) : CA ρ (ev σ x) (a.eval x) := by
  cases x with
  | tmp t => exact h t rfl
  | const v =>
    simp only [ev, Act.eval]
    split
    · rename_i hs; exact ⟨rfl, hs⟩
    · trivial
  | func f => exact ⟨[], trivial, rfl⟩
  | global g => trivial

theorem SlotsR.mono {ρ ρ' : Env} {σ : Slots} {tmps : Array Value} (h : SlotsR ρ σ tmps) (hl : Le ρ ρ') : SlotsR ρ' σ tmps := fun t ht => (h t ht).mono hl

theorem SlotsR.put {ρ : Env} {σ : Slots} {a : Act} (h : SlotsR ρ σ a.tmps) {d : Option Tmp} {v : AV} {cv : Value} (hv : CA ρ v cv) : SlotsR ρ (Upd σ d v) (a.put d cv).tmps := by
  cases d with
  | none => exact h
  | some d =>
    intro t ht
    simp only [Act.put, Array.size_setIfInBounds] at ht
    simp only [Upd, Act.put]
    by_cases e : t = d
    · subst e
      simp [Array.getD, ht, hv]
    · simp only [e, if_false]
      have := h t ht
      simp [Array.getD, ht] at this ⊢
      rw [Array.getElem_setIfInBounds_ne (by simpa using ht) (by omega)]
      exact this

theorem Act.put_size (a : Act) (d : Option Tmp) (v : Value) : (a.put d v).tmps.size = a.tmps.size := by
  cases d <;> simp [Act.put]

/-! ### Numbers -/
def aint (op : BinOp) (k : IntKind) (x y : Int) : Option Value :=
  match op with
  | .add => some (.int k (k.wrap (x + y)))
  | .sub => some (.int k (k.wrap (x - y)))
  | .mul => some (.int k (k.wrap (x * y)))
  | .quo => if y = 0 then none else some (.int k (k.wrap (x.tdiv y)))
  | .rem => if y = 0 then none else some (.int k (x.tmod y))
  | .and => some (.int k (k.wrap (BitVec.ofInt k.bits x &&& BitVec.ofInt k.bits y).toNat))
  | .or => some (.int k (k.wrap (BitVec.ofInt k.bits x ||| BitVec.ofInt k.bits y).toNat))
  | .xor => some (.int k (k.wrap (BitVec.ofInt k.bits x ^^^ BitVec.ofInt k.bits y).toNat))
  | .andNot => some (.int k (k.wrap (BitVec.ofInt k.bits x &&& ~~~ BitVec.ofInt k.bits y).toNat))
  | .eql => some (.bool (x == y))
  | .neq => some (.bool (x != y))
  | .lss => some (.bool (x < y))
  | .leq => some (.bool (x ≤ y))
  | .gtr => some (.bool (x > y))
  | .geq => some (.bool (x ≥ y))
  | .shl => none
  | .shr => none

def rawL : List SV → Option (List Value)
  | [] => some []
  | .raw v :: xs => (rawL xs).map (v :: ·)
  | _ :: _ => none

theorem rawL_ok {ρ : Env} : ∀ {xs : List SV} {vs us : List Value}, rawL xs = some us → Al2 (CS ρ) xs vs → vs = us
  | [], [], us, h, _ => by simp [rawL] at h; exact h.symm ▸ rfl
  | .raw v :: xs, u :: vs, us, h, hh => by
    simp only [rawL, Option.map_eq_some_iff] at h
    obtain ⟨ws, h1, rfl⟩ := h
    obtain ⟨h2, h3⟩ := hh
    obtain ⟨rfl, _⟩ := h2
    rw [rawL_ok h1 h3]
  | .sl .. :: _, _ :: _, _, h, _ => by simp [rawL] at h
  | .ptr .. :: _, _ :: _, _, h, _ => by simp [rawL] at h
  | .fn .. :: _, _ :: _, _, h, _ => by simp [rawL] at h
  | .vs .. :: _, _ :: _, _, h, _ => by simp [rawL] at h
  | .vp .. :: _, _ :: _, _, h, _ => by simp [rawL] at h
  | .ve :: _, _ :: _, _, h, _ => by simp [rawL] at h
  | [], _ :: _, _, _, hh => hh.elim
  | _ :: _, [], _, _, hh => hh.elim

def abin (te : Nat → Option TI) (H : Heap) (op : BinOp) (t : Nat) (x y : AV) : Option AV :=
  match x, y with
  | .s (.raw (.int k a)), .s (.raw (.int k' b)) => if k = k' then (aint op k a b).map fun v => .s (.raw v) else none
  | .s (.raw (.bool a)), .s (.raw (.bool b)) =>
    match te t, op with
    | some ⟨_, _, .bool, _, _⟩, .eql => some (.s (.raw (.bool (a == b))))
    | some ⟨_, _, .bool, _, _⟩, .neq => some (.s (.raw (.bool (!(a == b)))))
    | _, _ => none
  | .s (.sl b _ _ _), .s (.raw (.slice none 0 0)) =>
    match te t, op, H.m b with
    | some ⟨_, _, .sli _, _, _⟩, .eql, some _ => some (.s (.raw (.bool false)))
    | some ⟨_, _, .sli _, _, _⟩, .neq, some _ => some (.s (.raw (.bool true)))
    | _, _, _ => none
  | .s (.raw (.slice none 0 0)), .s (.raw (.slice none 0 0)) =>
    match te t, op with
    | some ⟨_, _, .sli _, _, _⟩, .eql => some (.s (.raw (.bool true)))
    | some ⟨_, _, .sli _, _, _⟩, .neq => some (.s (.raw (.bool false)))
    | _, _ => none
  | .s (.vs n _), .s (.raw (.slice none 0 0)) =>
    if n = 0 then none else
    match te t, op with
    | some ⟨_, _, .sli _, _, _⟩, .eql => some (.s (.raw (.bool false)))
    | some ⟨_, _, .sli _, _, _⟩, .neq => some (.s (.raw (.bool true)))
    | _, _ => none
  | .s .ve, .s (.raw (.slice none 0 0)) =>
    match te t, op with
    | some ⟨_, _, .sli _, _, _⟩, .eql => some (.s (.raw (.bool false)))
    | some ⟨_, _, .sli _, _, _⟩, .neq => some (.s (.raw (.bool true)))
    | _, _ => none
  | .agg xs, .agg ys =>
    match te t, rawL xs, rawL ys, op with
    | some ti, some us, some vs, .eql => if ti.cmp = true ∧ shapeL ti.zero us = true ∧ shapeL ti.zero vs = true then some (.s (.raw (.bool (eqL us vs)))) else none
    | some ti, some us, some vs, .neq => if ti.cmp = true ∧ shapeL ti.zero us = true ∧ shapeL ti.zero vs = true then some (.s (.raw (.bool (!(eqL us vs))))) else none
    | _, _, _, _ => none
  | _, _ => none

theorem aint_ok {P : Program} {w : World} {op : BinOp} {k : IntKind} {a b : Int} {v : Value} {t : Nat} {x y : Operand} (h : aint op k a b = some v) :
    (do eqGuard op t x y (.int k a) (.int k b); binOp op t (.int k a) (.int k b) : Sem Value).run P w = .ok v w ∧ scal v = true := by
  cases op <;> simp only [aint] at h <;> first
    | (injection h with h; subst h; constructor <;> first | rfl | (simp [eqGuard_at_int, binOp, Op.intArith, Op.intBits, Op.intCmp, Op.intDiv]; done))
    | (split at h
       · cases h
       · rename_i h0
         injection h with h; subst h; constructor <;> first | rfl | (simp [eqGuard_at_int, binOp, Op.intDiv, h0]; done))
    | cases h

theorem abin_ok {P : Program} {te : Nat → Option TI} (hte : TEok P te) {B : Nat} {ρ : Env} {H : Heap} {w : World} (hr : Rel B ρ H w) {op : BinOp} {t : Nat} {x y : Operand} {av bv r : AV} {xv yv : Value}
    (hx : CA ρ av xv) (hy : CA ρ bv yv) (h : abin te H op t av bv = some r) :
    ∃ v, (do eqGuard op t x y xv yv; binOp op t xv yv : Sem Value).run P w = .ok v w ∧ CA ρ r v := by
  unfold abin at h
  split at h
  · rename_i k a k' b
    obtain ⟨rfl, _⟩ := hx
    obtain ⟨rfl, _⟩ := hy
    split at h
    · rename_i hk; subst hk
      rw [Option.map_eq_some_iff] at h
      obtain ⟨v, h1, rfl⟩ := h
      obtain ⟨h2, h3⟩ := aint_ok (P := P) (w := w) (t := t) (x := x) (y := y) h1
      exact ⟨v, h2, rfl, h3⟩
    · cases h
  · rename_i a b
    obtain ⟨rfl, _⟩ := hx
    obtain ⟨rfl, _⟩ := hy
    split at h
    · rename_i ht
      injection h with h; subst h
      exact ⟨_, by simp [eqGuard_at_bool, run_eql_bool w t a b (hte _ _ ht).kind], rfl, rfl⟩
    · rename_i ht
      injection h with h; subst h
      exact ⟨_, by simp [eqGuard_at_bool, run_neq_bool w t a b (hte _ _ ht).kind], rfl, rfl⟩
    · cases h
  · rename_i b off len gr
    obtain ⟨rfl, _⟩ := hy
    have hv : ∀ x, H.m b = some x → ∃ a c, xv = .slice (some a) len c := fun x hx' => by
      simp only [CA, CS, LC] at hx
      split at hx
      · exact hx.elim
      · rename_i hd; exact absurd hd (hr.live b x hx')
      · split at hx
        · exact ⟨_, _, hx.2.2⟩
        · obtain ⟨c, o, _, _, hv⟩ := hx; exact ⟨_, _, hv⟩
    split at h
    · rename_i ht hb
      injection h with h; subst h
      obtain ⟨a, c, rfl⟩ := hv _ hb
      exact ⟨_, by simp only [Sem.run_bind, eqGuard_at_slice, Sem.run_pure, Result.andThen_ok, Lib.run_eql_slice_nil w t _ _ _ _ _ _ (hte _ _ ht).kind]; rfl, rfl, rfl⟩
    · rename_i ht hb
      injection h with h; subst h
      obtain ⟨a, c, rfl⟩ := hv _ hb
      exact ⟨_, by simp only [Sem.run_bind, eqGuard_at_slice, Sem.run_pure, Result.andThen_ok, Go.run_neq_slice_nil_any w t _ _ _ _ _ _ (hte _ _ ht).kind]; rfl, rfl, rfl⟩
    · cases h
  · obtain ⟨rfl, _⟩ := hx
    obtain ⟨rfl, _⟩ := hy
    split at h
    · rename_i ht
      injection h with h; subst h
      exact ⟨_, by simp only [Sem.run_bind, eqGuard_at_slice, Sem.run_pure, Result.andThen_ok, Lib.run_eql_slice_nil w t _ _ _ _ _ _ (hte _ _ ht).kind]; rfl, rfl, rfl⟩
    · rename_i ht
      injection h with h; subst h
      exact ⟨_, by simp only [Sem.run_bind, eqGuard_at_slice, Sem.run_pure, Result.andThen_ok, Go.run_neq_slice_nil_any w t _ _ _ _ _ _ (hte _ _ ht).kind]; rfl, rfl, rfl⟩
    · cases h
  · rename_i n cells
    simp only [CA, CS] at hx hy
    obtain ⟨rfl, _⟩ := hy
    obtain ⟨ad, c, cb, co, rfl, _, ha, _⟩ := hx
    split at h
    · cases h
    · rename_i hn
      rw [ha hn]
      split at h
      · rename_i ht
        injection h with h; subst h
        exact ⟨_, by simp only [Sem.run_bind, eqGuard_at_slice, Sem.run_pure, Result.andThen_ok, Lib.run_eql_slice_nil w t _ _ _ _ _ _ (hte _ _ ht).kind]; rfl, rfl, rfl⟩
      · rename_i ht
        injection h with h; subst h
        exact ⟨_, by simp only [Sem.run_bind, eqGuard_at_slice, Sem.run_pure, Result.andThen_ok, Go.run_neq_slice_nil_any w t _ _ _ _ _ _ (hte _ _ ht).kind]; rfl, rfl, rfl⟩
      · cases h
  · simp only [CA, CS] at hx hy
    obtain ⟨rfl, _⟩ := hy
    obtain ⟨ad, c, rfl⟩ := hx
    split at h
    · rename_i ht
      injection h with h; subst h
      exact ⟨_, by simp only [Sem.run_bind, eqGuard_at_slice, Sem.run_pure, Result.andThen_ok, Lib.run_eql_slice_nil w t _ _ _ _ _ _ (hte _ _ ht).kind]; rfl, rfl, rfl⟩
    · rename_i ht
      injection h with h; subst h
      exact ⟨_, by simp only [Sem.run_bind, eqGuard_at_slice, Sem.run_pure, Result.andThen_ok, Go.run_neq_slice_nil_any w t _ _ _ _ _ _ (hte _ _ ht).kind]; rfl, rfl, rfl⟩
    · cases h
  · rename_i xs ys
    obtain ⟨vx, hx1, rfl⟩ := hx
    obtain ⟨vy, hy1, rfl⟩ := hy
    split at h
    · rename_i ti us vs hti hus hvs
      split at h
      · rename_i hc
        injection h with h; subst h
        obtain rfl := rawL_ok hus hx1
        obtain rfl := rawL_ok hvs hy1
        obtain ⟨h1, h2⟩ := (hte _ _ hti).cmp hc.1 vx vy w hc.2.1 hc.2.2
        exact ⟨_, by simp only [Sem.run_bind, run_eqGuard_agg _ _ _ _ _ _ _ h1, Result.andThen_ok, run_eql_struct, h2], rfl, rfl⟩
      · cases h
    · rename_i ti us vs hti hus hvs
      split at h
      · rename_i hc
        injection h with h; subst h
        obtain rfl := rawL_ok hus hx1
        obtain rfl := rawL_ok hvs hy1
        obtain ⟨h1, h2⟩ := (hte _ _ hti).cmp hc.1 vx vy w hc.2.1 hc.2.2
        exact ⟨_, by simp only [Sem.run_bind, run_eqGuard_agg _ _ _ _ _ _ _ h1, Result.andThen_ok, run_neq_struct, h2], rfl, rfl⟩
      · cases h
    · cases h
  · cases h

end Go.Abs
/-
  One operation on the abstract heap: the evaluator, and that the machine does what it says.
-/
namespace Go.Abs
set_option linter.unusedVariables false
set_option linter.unusedSimpArgs false
open Go.RowKit

def zrep : Nat → List SV → List SV
  | 0, _ => []
  | n + 1, z => z ++ zrep n z

def afill (place : Nat → Option (Nat × Nat)) : List SV → List (Nat × AV) → Option (List SV)
  | cells, [] => some cells
  | cells, (i, v) :: rest =>
    match place i, v.cells with
    | some (off, size), some xs => if xs.length = size ∧ off + size ≤ cells.length then afill place (setAll cells off xs) rest else none
    | _, _ => none

def ptrs : List AV → Option (List (Nat × Nat))
  | [] => some []
  | .s (.ptr b off) :: xs => (ptrs xs).map ((b, off) :: ·)
  | _ :: _ => none

def oint : Option AV → Option (Option Int)
  | none => some none
  | some (.s (.raw (.int _ n))) => some (some n)
  | _ => none

def aslice (te : Nat → Option TI) (H : Heap) (t : Nat) (x : AV) (lo hi : Option AV) : Option (AV × Heap) :=
  match te t, oint lo, oint hi with
  | some ⟨_, _, .sli e, _, _⟩, some lo, some hi =>
    match te e, x with
    | some _, .s (.raw (.slice none 0 0)) => if lo.getD 0 = 0 ∧ hi.getD 0 = 0 then some (x, H) else none
    | some ti, .s (.sl b off len gr) =>
      match H.m b with
      | some blk =>
        if 0 ≤ lo.getD 0 ∧ lo.getD 0 ≤ hi.getD len ∧ hi.getD len ≤ len then
          if hi.getD len = 0 ∧ lo = none ∧ gr = true ∧ blk.wr = true then some (.s (.sl H.n 0 0 true), (H.set b none).push { blk with cells := [] })
          else some (.s (.sl b (off + (lo.getD 0).toNat * ti.size) ((hi.getD len).toNat - (lo.getD 0).toNat) false), H)
        else none
      | none => none
    | some ti, .s (.vs n cells) =>
      if 0 ≤ lo.getD 0 ∧ lo.getD 0 ≤ hi.getD n ∧ hi.getD n ≤ n then
        some (.s (.vs ((hi.getD n).toNat - (lo.getD 0).toNat) ((cells.drop ((lo.getD 0).toNat * ti.size)).take (((hi.getD n).toNat - (lo.getD 0).toNat) * ti.size))), H)
      else none
    | _, _ => none
  | _, _, _ => none

/-- zeros, so many as a number says, behind nil (slices.Grow) -/
def aappendZ (te : Nat → Option TI) (H : Heap) (st xt : Nat) (s x : AV) : Option (AV × Heap) :=
  match te st, te xt, s, x with
  | some ⟨_, _, .sli e, _, _⟩, some ⟨_, _, .int _, _, _⟩, .s (.raw (.slice none 0 0)), .s (.raw (.int _ m)) =>
    match te e with
    | some ti => if 0 < m ∧ m * ti.bytes ≤ 70368744177664 ∧ ti.bytes ≠ 0 ∧ ti.size ≠ 0 then some (.s (.sl H.n 0 m.toNat true), H.push { cells := zrep m.toNat (ti.zero.map .raw), esz := ti.size, wr := true }) else none
    | none => none
  | _, _, _, _ => none
def aappendX (te : Nat → Option TI) (H : Heap) (st xt : Nat) (s x : AV) : Option (AV × Heap) :=
  match te xt with
  | some ⟨_, _, .int _, _, _⟩ => aappendZ te H st xt s x
  | _ => aappend te H st xt s x

def abuiltin (te : Nat → Option TI) (H : Heap) (b : Builtin) (args : List AV) (ts : List Nat) : Option (AV × Heap) :=
  match b, args, ts with
  | .len, [x], [t] =>
    match te t, x with
    | some ⟨_, _, .sli _, _, _⟩, .s (.raw (.slice none 0 0)) => some (.s (.raw (.int .i64 0)), H)
    | some ⟨_, _, .sli _, _, _⟩, .s (.sl b _ n _) =>
      match H.m b with
      | some _ => some (.s (.raw (.int .i64 n)), H)
      | none => none
    | some ⟨_, _, .sli _, _, _⟩, .s (.vs n _) => some (.s (.raw (.int .i64 n)), H)
    | some ⟨_, _, .sli _, _, _⟩, .s .ve => some (.s (.raw (.int .i64 0)), H)
    | _, _ => none
  | .cap, [x], [t] =>
    match te t, x with
    | some ⟨_, _, .sli _, _, _⟩, .s (.raw (.slice none 0 0)) => some (.s (.raw (.int .i64 0)), H)
    | _, _ => none
  | .append, [s, x], [st, xt] => aappendX te H st xt s x
  | .max, [.s (.raw (.int k a)), .s (.raw (.int _ b))], _ => some (.s (.raw (.int k (if b > a then b else a))), H)
  | .min, [.s (.raw (.int k a)), .s (.raw (.int _ b))], _ => some (.s (.raw (.int k (if b < a then b else a))), H)
  | _, _, _ => none

def aop (te : Nat → Option TI) (σ : Slots) (H : Heap) : Op → Option (AV × Heap)
  | .move x => some (ev σ x, H)
  | .assign x => some (ev σ x, H)
  | .pick c a b =>
    match ev σ c with
    | .s (.raw (.bool t)) => some (if t then ev σ a else ev σ b, H)
    | _ => none
  | .alloc t =>
    match te t with
    | some ti => some (.s (.ptr H.n 0), H.push { cells := ti.zero.map .raw })
    | none => none
  | .box _ x =>
    match (ev σ x).cells with
    | some cs => some (.s (.ptr H.n 0), H.push { cells := cs })
    | none => none
  | .build t parts =>
    match te t with
    | some ⟨_, _, .str fs, z, _⟩ => (afill (fs[·]?) (z.map .raw) (parts.toList.map fun p => (p.1, ev σ p.2))).map fun cs => (.agg cs, H)
    | _ => none
  | .buildSlice t len parts =>
    match te t with
    | some ⟨_, _, .sli e, _, _⟩ =>
      match te e with
      | some ti =>
        if len * ti.size ≤ 16777216 ∧ ti.size ≠ 0 then
          (afill (fun i => some (i * ti.size, ti.size)) (zrep len (ti.zero.map .raw)) (parts.toList.map fun p => (p.1, ev σ p.2))).map fun cs => (.s (.sl H.n 0 len true), H.push { cells := cs, esz := ti.size })
        else none
      | none => none
    | _ => none
  | .load t a =>
    match ev σ a with
    | .s (.ptr b off) => (aload te H t b off).map (·, H)
    | .s (.vp cells) => (aloadV te t cells).map (·, H)
    | _ => none
  | .store t a x =>
    match ev σ a with
    | .s (.ptr b off) => (astore te H t b off (ev σ x)).map (.any, ·)
    | _ => none
  | .nilCheck x =>
    match ev σ x with
    | .s (.ptr b off) => match H.m b with
      | some _ => some (.s (.ptr b off), H)
      | none => none
    | .s (.vp cells) => some (.s (.vp cells), H)
    | _ => none
  | .binOp op t x y _ => (abin te H op t (ev σ x) (ev σ y)).map (·, H)
  | .unOp op _ x =>
    match op, ev σ x with
    | .not, .s (.raw (.bool b)) => some (.s (.raw (.bool !b)), H)
    | .neg, .s (.raw (.int k n)) => some (.s (.raw (.int k (k.wrap (0 - n)))), H)
    | _, _ => none
  | .convert src dst x =>
    match te src, te dst, ev σ x with
    | some _, some ⟨_, _, .int k, _, _⟩, .s (.raw (.int _ n)) => some (.s (.raw (.int k (k.wrap n))), H)
    | _, _, _ => none
  | .makeFunc (.func f) first captured =>
    if first.size = 0 then (ptrs (captured.toList.map (ev σ))).map fun ps => (.s (.fn f ps), H) else none
  | .slice t x lo hi none => aslice te H t (ev σ x) (lo.map (ev σ)) (hi.map (ev σ))
  | .fieldAddr s x f =>
    match te s, ev σ x with
    | some ⟨_, _, .str fs, _, _⟩, .s (.ptr b off) =>
      match fs[f]?, H.m b with
      | some (o, sz), some _ => if sz ≠ 0 then some (.s (.ptr b (off + o)), H) else none
      | _, _ => none
    | some ⟨_, _, .str fs, _, _⟩, .s (.vp cells) =>
      match fs[f]? with
      | some (o, sz) => if sz ≠ 0 then some (.s (.vp (cells.drop o)), H) else none
      | _ => none
    | _, _ => none
  | .indexAddr t x ix =>
    match te t, ev σ x, ev σ ix with
    | some ⟨_, _, .arr n e, _, _⟩, .s (.ptr b off), .s (.raw (.int _ i)) =>
      match te e, H.m b with
      | some ti, some _ => if 0 ≤ i ∧ i < n then some (.s (.ptr b (off + i.toNat * ti.size)), H) else none
      | _, _ => none
    | some ⟨_, _, .sli e, _, _⟩, .s (.sl b off len _), .s (.raw (.int _ i)) =>
      match te e, H.m b with
      | some ti, some _ => if 0 ≤ i ∧ i < len then some (.s (.ptr b (off + i.toNat * ti.size)), H) else none
      | _, _ => none
    | some ⟨_, _, .sli e, _, _⟩, .s (.vs n cells), .s (.raw (.int _ i)) =>
      match te e with
      | some ti => if 0 ≤ i ∧ i < n then some (.s (.vp (cells.drop (i.toNat * ti.size))), H) else none
      | _ => none
    | some ⟨_, _, .arr n e, _, _⟩, .s (.vp cells), .s (.raw (.int _ i)) =>
      match te e with
      | some ti => if 0 ≤ i ∧ i < n then some (.s (.vp (cells.drop (i.toNat * ti.size))), H) else none
      | _ => none
    | _, _, _ => none
  | .extract x i =>
    match ev σ x with
    | .tup cs => (cs[i]?).map fun c => (c.av, H)
    | _ => none
  | .call { callee := .builtin b, args := args, argTypes := ts } => abuiltin te H b (args.toList.map (ev σ)) ts.toList
  | _ => none

/-- What is owed of an operation. -/
def OpOk (P : Program) (B : Nat) (ρ : Env) (H : Heap) (w : World) (a : Act) (o : Oper) (r : AV) (H' : Heap) : Prop :=
  ∃ (nx : Next) (w' : World) (ρ' : Env), (execOp a.eval o).run P w = .ok nx w' ∧ ((∃ rv, nx = .value rv ∧ CA ρ' r rv) ∨ (nx = .skip ∧ r = .any)) ∧ Rel B ρ' H' w' ∧ Step ρ H w ρ' H' w'

theorem setAll_ok {ρ : Env} : ∀ (xs : List SV) (vs : List Value) (cells : List SV) (cs : List Value) (off k : Nat), Al2 (CS ρ) cells cs → Al2 (CS ρ) xs vs →
    Al2 (CS ρ) (setAll cells (off + k) xs) ((vs.zipIdx k).foldl (fun cs (c, j) => cs.set (off + j) c) cs)
  | [], [], cells, cs, off, k, h, _ => by simpa [setAll] using h
  | x :: xs, v :: vs, cells, cs, off, k, h, hv => by
    simp only [setAll, List.zipIdx_cons, List.foldl_cons]
    have := setAll_ok xs vs (cells.set (off + k) x) (cs.set (off + k) v) off (k + 1) ?_ hv.2
    · exact this
    · refine Al2.of_get (by simp [h.length]) fun i z hz => ?_
      by_cases e : i = off + k
      · subst e
        have hlt : off + k < cells.length := by have := (List.getElem?_eq_some_iff.1 hz).1; simpa using this
        rw [List.getElem?_set_self hlt] at hz; cases hz
        exact ⟨v, List.getElem?_set_self (by rw [← h.length]; exact hlt), hv.1⟩
      · rw [List.getElem?_set_ne (by omega)] at hz
        obtain ⟨y, hy, hr⟩ := h.get hz
        exact ⟨y, by rw [List.getElem?_set_ne (by omega)]; exact hy, hr⟩
  | [], _ :: _, _, _, _, _, _, hv => hv.elim
  | _ :: _, [], _, _, _, _, _, hv => hv.elim

theorem foldl_set_array : ∀ (l : List (Value × Nat)) (off : Nat) (c : Array Value), (l.foldl (fun cs p => cs.setIfInBounds (off + p.2) p.1) c).toList = l.foldl (fun cs p => cs.set (off + p.2) p.1) c.toList
  | [], _, _ => rfl
  | p :: l, off, c => by
    simp only [List.foldl_cons]
    rw [foldl_set_array l off]
    simp

theorem afill_ok {ρ : Env} {place : Nat → Option (Nat × Nat)} {σ : Slots} {a : Act} : ∀ (parts : List (Nat × Operand)) (cells : List SV) (cs : Array Value) (out : List SV), Al2 (CS ρ) cells cs.toList →
    (∀ p ∈ parts, CA ρ (ev σ p.2) (a.eval p.2)) → afill place cells (parts.map fun p => (p.1, ev σ p.2)) = some out →
    ∃ cs', Instr.fill place cs (parts.map fun p => (p.1, a.eval p.2)) = some cs' ∧ Al2 (CS ρ) out cs'.toList
  | [], cells, cs, out, h, _, hf => by
    simp [afill] at hf; subst hf
    exact ⟨cs, rfl, h⟩
  | (i, x) :: parts, cells, cs, out, h, hp, hf => by
    simp only [List.map_cons, afill] at hf
    split at hf
    · rename_i off size xs hpl hxs
      split at hf
      · rename_i hc
        obtain ⟨hc1, hc2⟩ := hc
        obtain ⟨vs, h1, h2⟩ := (hp (i, x) (by simp)).cells hxs
        have hsz : (a.eval x).cells.size = size := by rw [← Array.length_toList, h2, ← h1.length, hc1]
        have hcs : cells.length = cs.size := by rw [h.length]; simp
        have e1 : ((a.eval x).cells.zipIdx.foldl (fun cs (c, j) => cs.setIfInBounds (off + j) c) cs).toList = (vs.zipIdx 0).foldl (fun cs (c, j) => cs.set (off + j) c) cs.toList := by
          rw [← Array.foldl_toList, Array.toList_zipIdx, h2]
          exact foldl_set_array _ off cs
        obtain ⟨cs', h3, h4⟩ := afill_ok parts (setAll cells off xs) ((a.eval x).cells.zipIdx.foldl (fun cs (c, j) => cs.setIfInBounds (off + j) c) cs) out
          (by rw [e1]; exact setAll_ok xs vs cells cs.toList off 0 h h1) (fun p hp' => hp p (by simp [hp'])) hf
        refine ⟨cs', ?_, h4⟩
        simp only [List.map_cons, Instr.fill, hpl]
        rw [if_neg (by simp [hsz]; omega)]
        exact h3
      · cases hf
    · cases hf

theorem zero_al2 {ρ : Env} {P : Program} {t : Nat} {ti : TI} (h : TIok P t ti) : Al2 (CS ρ) (ti.zero.map .raw) ti.zero := by
  have := h.zsc
  revert this
  generalize ti.zero = z
  induction z with
  | nil => intro _; trivial
  | cons v z ih => intro hz; exact ⟨⟨rfl, hz v (by simp)⟩, ih fun u hu => hz u (by simp [hu])⟩

theorem zrep_snoc (z : List SV) : ∀ n, zrep (n + 1) z = zrep n z ++ z
  | 0 => by simp [zrep]
  | n + 1 => by
    have := zrep_snoc z n
    simp only [zrep] at this ⊢
    rw [List.append_assoc, ← this]

theorem zrow_al2 {ρ : Env} {z : List Value} {za : Array Value} (hz : za.toList = z) (h0 : z.length ≠ 0) (h : Al2 (CS ρ) (z.map .raw) z) : ∀ n, Al2 (CS ρ) (zrep n (z.map .raw)) ((List.range (n * z.length)).map fun i => za[i % za.size]!)
  | 0 => by simp [zrep, Al2]
  | n + 1 => by
    rw [zrep_snoc]
    have e : (List.range ((n + 1) * z.length)).map (fun i => za[i % za.size]!) = (List.range (n * z.length)).map (fun i => za[i % za.size]!) ++ z := by
      rw [Nat.add_mul, Nat.one_mul, List.range_add, List.map_append]
      congr 1
      apply List.ext_getElem
      · simp
      · intro i h1 h2
        have hs : za.size = z.length := by rw [← hz]; simp
        simp only [List.map_map, List.getElem_map, List.getElem_range, Function.comp_apply]
        rw [hs, Nat.mul_add_mod_self_right, Nat.mod_eq_of_lt (by simpa using h2)]
        have hi : i < za.size := by rw [hs]; simpa using h2
        rw [getElem!_pos za i hi]
        simp [← hz]
    rw [e]
    exact (zrow_al2 hz h0 h n).append h

theorem mapM_get {α β : Type} {f : α → Option β} : ∀ (l : List α) (r : List β), l.mapM f = some r → ∀ (i : Nat) (y : β), r[i]? = some y → ∃ x, l[i]? = some x ∧ f x = some y
  | [], r, h, i, y, hy => by simp at h; subst h; simp at hy
  | x :: l, r, h, i, y, hy => by
    simp only [List.mapM_cons, Option.bind_eq_bind, Option.pure_def, Option.bind_eq_some_iff] at h
    obtain ⟨y0, h1, ys, h2, h3⟩ := h
    injection h3 with h3; subst h3
    cases i with
    | zero => simp at hy; subst hy; exact ⟨x, by simp, h1⟩
    | succ i =>
      obtain ⟨x', h4, h5⟩ := mapM_get l ys h2 i y (by simpa using hy)
      exact ⟨x', by simpa using h4, h5⟩

theorem mul_mod_self_right' (a b : Nat) : (a * b) % b = 0 := Nat.mul_mod_left _ _

section
variable {P : Program} {te : Nat → Option TI} {B : Nat} {ρ : Env} {H H' : Heap} {w : World} {a : Act} {σ : Slots} {r : AV}

theorem opok_quiet {o : Oper} (hr : Rel B ρ H w) {rv : Value} (h : (execOp a.eval o).run P w = .ok (.value rv) w) (hv : CA ρ r rv) : OpOk P B ρ H w a o r H :=
  ⟨_, w, ρ, h, .inl ⟨rv, rfl, hv⟩, hr, Step.refl _ _ _⟩

theorem ptr_at (hr : Rel B ρ H w) {b off : Nat} {v : Value} (h : CA ρ (.s (.ptr b off)) v) {x : Blk} (hx : H.m b = some x) : ∃ cb co cc, ρ b = .at_ cb co cc ∧ v = .pointer (some ⟨cb, co + off, none⟩) := by
  simp only [CA, CS, PC] at h
  split at h
  · exact h.elim
  · rename_i hd; exact absurd hd (hr.live b x hx)
  · rename_i cb co cc hat; exact ⟨cb, co, cc, hat, h⟩

theorem sl_at (hr : Rel B ρ H w) {b off len : Nat} {gr : Bool} {v : Value} (h : CA ρ (.s (.sl b off len gr)) v) {x : Blk} (hx : H.m b = some x) :
    ∃ cb co cc o c, ρ b = .at_ cb co cc ∧ len ≤ c ∧ (len ≠ 0 → o = co + off) ∧ v = .slice (some ⟨cb, o, none⟩) len c ∧ (gr = true → off = 0 ∧ o = co ∧ c = cc) := by
  simp only [CA, CS, LC] at h
  split at h
  · exact h.elim
  · rename_i hd; exact absurd hd (hr.live b x hx)
  · rename_i cb co cc hat
    split at h
    · obtain ⟨rfl, h1, h2⟩ := h; exact ⟨cb, co, cc, co, cc, hat, h1, fun _ => by omega, h2, fun _ => ⟨rfl, rfl, rfl⟩⟩
    · obtain ⟨c, o, h1, h2, h3⟩ := h; exact ⟨cb, co, cc, o, c, hat, h1, h2, h3, fun h => by cases h⟩

theorem aload_live {t b off : Nat} {av : AV} (h : aload te H t b off = some av) : ∃ x, H.m b = some x := by
  unfold aload at h
  split at h
  · rename_i hx; exact ⟨_, hx⟩
  · cases h

theorem astore_live {t b off : Nat} {av : AV} (h : astore te H t b off av = some H') : ∃ x, H.m b = some x := by
  unfold astore at h
  split at h
  · rename_i hx _; exact ⟨_, hx⟩
  · cases h

theorem ok_load (hte : TEok P te) (hr : Rel B ρ H w) {o : Oper} {t : Nat} {x : Operand} (ho : o.op = .load t x) (hx : CA ρ (ev σ x) (a.eval x)) (h : aop te σ H o.op = some (r, H')) : OpOk P B ρ H w a o r H' := by
  rw [ho] at h
  simp only [aop] at h
  split at h
  · rename_i b off he
    rw [Option.map_eq_some_iff] at h
    obtain ⟨av, h1, h2⟩ := h
    cases h2
    obtain ⟨xb, hxb⟩ := aload_live h1
    rw [he] at hx
    obtain ⟨cb, co, cc, hat, hv⟩ := ptr_at hr hx hxb
    obtain ⟨cv, h3, h4⟩ := aload_ok hte h1 hr hat
    exact opok_quiet hr (by simp [execOp, ho, Instr.loadAt, hv, Instr.sureAddr, h3]) h4
  · rename_i cells he
    rw [Option.map_eq_some_iff] at h
    obtain ⟨av, h1, h2⟩ := h
    cases h2
    rw [he] at hx
    simp only [CA, CS] at hx
    obtain ⟨cb, co, hv, hm⟩ := hx
    obtain ⟨cv, h3, h4⟩ := aloadV_ok hte h1 hr hm
    exact opok_quiet hr (by simp [execOp, ho, Instr.loadAt, hv, Instr.sureAddr, h3]) h4
  · cases h

theorem ok_store (hte : TEok P te) (hr : Rel B ρ H w) {o : Oper} {t : Nat} {x y : Operand} (ho : o.op = .store t x y) (hx : CA ρ (ev σ x) (a.eval x)) (hy : CA ρ (ev σ y) (a.eval y)) (h : aop te σ H o.op = some (r, H')) : OpOk P B ρ H w a o r H' := by
  rw [ho] at h
  simp only [aop] at h
  split at h
  · rename_i b off he
    rw [Option.map_eq_some_iff] at h
    obtain ⟨H1, h1, h2⟩ := h
    cases h2
    obtain ⟨xb, hxb⟩ := astore_live h1
    rw [he] at hx
    obtain ⟨cb, co, cc, hat, hv⟩ := ptr_at hr hx hxb
    obtain ⟨w', h3, h4, h5⟩ := astore_ok hte h1 hr hat hy
    exact ⟨.skip, w', ρ, by simp [execOp, ho, Instr.storeAt, hv, Instr.sureAddr, h3], .inr ⟨rfl, rfl⟩, h4, h5⟩
  · cases h

theorem ok_alloc (hte : TEok P te) (hr : Rel B ρ H w) {o : Oper} {t : Nat} (ho : o.op = .alloc t) (h : aop te σ H o.op = some (r, H')) : OpOk P B ρ H w a o r H' := by
  rw [ho] at h
  simp only [aop] at h
  split at h
  · rename_i ti hti
    injection h with h; cases h
    have ht := hte _ _ hti
    obtain ⟨z, hz, hz'⟩ := ht.zeroValue w
    obtain ⟨h1, h2⟩ := hr.new (ti.zero.map .raw) z.cells t 0 0 (fun j sv hj => by
      obtain ⟨v, h1, h2⟩ := (zero_al2 (ρ := ρ) ht).get hj
      exact ⟨v, by rw [← Array.getElem?_toList, hz']; exact h1, h2⟩) (fun h0 => absurd rfl h0)
    refine ⟨.value (.pointer (some ⟨w.heap.size, 0, none⟩)), _, _, ?_, .inl ⟨_, rfl, ?_⟩, h1, h2⟩
    · simp [execOp, ho, Instr.alloc, hz, newVar, newRow]
    · simp [CA, CS, PC]
  · cases h

theorem ok_box (hr : Rel B ρ H w) {o : Oper} {t : Nat} {x : Operand} (ho : o.op = .box t x) (hx : CA ρ (ev σ x) (a.eval x)) (h : aop te σ H o.op = some (r, H')) : OpOk P B ρ H w a o r H' := by
  rw [ho] at h
  simp only [aop] at h
  split at h
  · rename_i cs hcs
    injection h with h; cases h
    obtain ⟨vs, h1, h2⟩ := hx.cells hcs
    obtain ⟨h3, h4⟩ := hr.new cs (a.eval x).cells t 0 0 (fun j sv hj => by
      obtain ⟨v, h5, h6⟩ := h1.get hj
      exact ⟨v, by rw [← Array.getElem?_toList, h2]; exact h5, h6⟩) (fun h0 => absurd rfl h0)
    refine ⟨.value (.pointer (some ⟨w.heap.size, 0, none⟩)), _, _, ?_, .inl ⟨_, rfl, ?_⟩, h3, h4⟩
    · simp [execOp, ho, Instr.box, newVar, newRow]
    · simp [CA, CS, PC]
  · cases h

theorem ok_fieldAddr (hte : TEok P te) (hr : Rel B ρ H w) {o : Oper} {s f : Nat} {x : Operand} (ho : o.op = .fieldAddr s x f) (hx : CA ρ (ev σ x) (a.eval x)) (h : aop te σ H o.op = some (r, H')) : OpOk P B ρ H w a o r H' := by
  rw [ho] at h
  simp only [aop] at h
  split at h
  · rename_i _ _ fs _ _ b off hti he
    split at h
    · rename_i fo sz blk hf hb
      split at h
      · rename_i hsz
        injection h with h; cases h
        rw [he] at hx
        obtain ⟨cb, co, cc, hat, hv⟩ := ptr_at hr hx hb
        obtain ⟨fields, hu, hfs⟩ := (hte _ _ hti).kind
        obtain ⟨fl, hfl, hfe⟩ := mapM_get _ _ hfs _ _ hf
        rw [Option.map_eq_some_iff] at hfe
        obtain ⟨fi, hfi, hfe⟩ := hfe
        cases hfe
        rw [Array.getElem?_toList] at hfl
        have hsz' : (Go.sizeOf fl.type).run P w = .ok fi.size w := by simp [Go.sizeOf, typeInfo, hfi]
        refine opok_quiet hr (rv := .pointer (some ⟨cb, co + (off + fl.offset), none⟩)) ?_ (by simp [CA, CS, PC, hat])
        simp [execOp, ho, Instr.fieldAt, Go.run_underlying hu, hfl, hv, Instr.sureAddr, fieldPlace, hsz', hsz, Addr.add_lit, Nat.add_assoc]
      · cases h
    · cases h
  · rename_i _ _ fs _ _ cells hti he
    split at h
    · rename_i fo sz hf
      split at h
      · rename_i hsz
        injection h with h; cases h
        rw [he] at hx
        simp only [CA, CS] at hx
        obtain ⟨cb, co, hv, hm⟩ := hx
        obtain ⟨fields, hu, hfs⟩ := (hte _ _ hti).kind
        obtain ⟨fl, hfl, hfe⟩ := mapM_get _ _ hfs _ _ hf
        rw [Option.map_eq_some_iff] at hfe
        obtain ⟨fi, hfi, hfe⟩ := hfe
        cases hfe
        rw [Array.getElem?_toList] at hfl
        have hsz' : (Go.sizeOf fl.type).run P w = .ok fi.size w := by simp [Go.sizeOf, typeInfo, hfi]
        refine opok_quiet hr (rv := .pointer (some ⟨cb, co + fl.offset, none⟩)) ?_ (by simp only [CA, CS]; exact ⟨cb, _, rfl, MS_drop hm _⟩)
        simp [execOp, ho, Instr.fieldAt, Go.run_underlying hu, hfl, hv, Instr.sureAddr, fieldPlace, hsz', hsz, Addr.add_lit]
      · cases h
    · cases h
  · cases h

theorem ok_indexAddr (hte : TEok P te) (hr : Rel B ρ H w) {o : Oper} {t : Nat} {x ix : Operand} (ho : o.op = .indexAddr t x ix) (hx : CA ρ (ev σ x) (a.eval x)) (hi : CA ρ (ev σ ix) (a.eval ix)) (h : aop te σ H o.op = some (r, H')) : OpOk P B ρ H w a o r H' := by
  rw [ho] at h
  simp only [aop] at h
  split at h
  · rename_i _ _ n e _ _ b off k i hti he hei
    split at h
    · rename_i ti blk hte' hb
      split at h
      · rename_i hlt
        injection h with h; cases h
        rw [he] at hx; rw [hei] at hi
        obtain ⟨hi, _⟩ := hi
        obtain ⟨cb, co, cc, hat, hv⟩ := ptr_at hr hx hb
        have hu : P.underlying t = some (.array n e) := (hte _ _ hti).kind
        refine opok_quiet hr (rv := .pointer (some ⟨cb, co + (off + i.toNat * ti.size), none⟩)) ?_ (by simp [CA, CS, PC, hat])
        simp [execOp, ho, Instr.indexAt, asIntOf, hi, Go.run_underlying hu, hv, Instr.sureAddr, hlt, (hte _ _ hte').sizeOf, Addr.add_lit, Nat.add_assoc]
      · cases h
    · cases h
  · rename_i _ _ e _ _ b off len gr k i hti he hei
    split at h
    · rename_i ti blk hte' hb
      split at h
      · rename_i hlt
        injection h with h; cases h
        rw [he] at hx; rw [hei] at hi
        obtain ⟨hi, _⟩ := hi
        obtain ⟨cb, co, cc, oo, c, hat, hlc, hoo, hv, _⟩ := sl_at hr hx hb
        have hu : P.underlying t = some (.slice e) := (hte _ _ hti).kind
        have hoo := hoo (by omega)
        subst hoo
        refine opok_quiet hr (rv := .pointer (some ⟨cb, co + (off + i.toNat * ti.size), none⟩)) ?_ (by simp [CA, CS, PC, hat])
        simp [execOp, ho, Instr.indexAt, asIntOf, hi, Go.run_underlying hu, hv, hlt, (hte _ _ hte').sizeOf, Addr.add_lit, Nat.add_assoc]
      · cases h
    · cases h
  · rename_i _ _ e _ _ n cells k i hti he hei
    split at h
    · rename_i ti hte'
      split at h
      · rename_i hlt
        injection h with h; cases h
        rw [he] at hx; rw [hei] at hi
        simp only [CA, CS] at hx hi
        obtain ⟨hi, _⟩ := hi
        obtain ⟨ad, c, cb, co, hv, hlc, ha, _, hm⟩ := hx
        have hu : P.underlying t = some (.slice e) := (hte _ _ hti).kind
        have ha := ha (by omega)
        subst ha
        refine opok_quiet hr (rv := .pointer (some ⟨cb, co + i.toNat * ti.size, none⟩)) ?_ (by simp only [CA, CS]; exact ⟨cb, _, rfl, MS_drop hm _⟩)
        simp [execOp, ho, Instr.indexAt, asIntOf, hi, Go.run_underlying hu, hv, hlt, (hte _ _ hte').sizeOf, Addr.add_lit]
      · cases h
    · cases h
  · rename_i _ _ n e _ _ cells k i hti he hei
    split at h
    · rename_i ti hte'
      split at h
      · rename_i hlt
        injection h with h; cases h
        rw [he] at hx; rw [hei] at hi
        simp only [CA, CS] at hx hi
        obtain ⟨hi, _⟩ := hi
        obtain ⟨cb, co, hv, hm⟩ := hx
        have hu : P.underlying t = some (.array n e) := (hte _ _ hti).kind
        refine opok_quiet hr (rv := .pointer (some ⟨cb, co + i.toNat * ti.size, none⟩)) ?_ (by simp only [CA, CS]; exact ⟨cb, _, rfl, MS_drop hm _⟩)
        simp [execOp, ho, Instr.indexAt, asIntOf, hi, Go.run_underlying hu, hv, Instr.sureAddr, hlt, (hte _ _ hte').sizeOf, Addr.add_lit]
      · cases h
    · cases h
  · cases h

theorem ok_build (hte : TEok P te) (hr : Rel B ρ H w) {o : Oper} {t : Nat} {parts : Array (Nat × Operand)} (ho : o.op = .build t parts) (hp : ∀ p ∈ parts.toList, CA ρ (ev σ p.2) (a.eval p.2)) (h : aop te σ H o.op = some (r, H')) : OpOk P B ρ H w a o r H' := by
  rw [ho] at h
  simp only [aop] at h
  split at h
  · rename_i _ _ fs z _ hti
    rw [Option.map_eq_some_iff] at h
    obtain ⟨cs, h1, h2⟩ := h
    cases h2
    have ht := hte _ _ hti
    obtain ⟨zv, hz, hz'⟩ := ht.zeroValue w
    obtain ⟨fields, hu, hfs⟩ := ht.kind
    obtain ⟨cs', h3, h4⟩ := afill_ok (ρ := ρ) (σ := σ) (a := a) parts.toList (z.map .raw) zv.cells cs (by rw [hz']; exact zero_al2 ht) hp h1
    obtain ⟨i, hi, _, _, zv', hzv, _⟩ := ht.info
    have hzz : zv' = zv := by
      have : (Go.zeroValue t).run P w = .ok zv' w := by simp [Go.zeroValue, typeInfo, hi, hzv]
      rw [hz] at this; cases this; rfl
    subst hzz
    refine opok_quiet hr (rv := .agg cs') ?_ ⟨cs'.toList, h4, by simp⟩
    have hb : P.built t (parts.map fun p => (p.1, a.eval p.2)).toList = some cs' := by
      simp only [Program.built, hi, hu, hzv, hfs, Array.toList_map]
      simpa using h3
    have := run_build (P := P) w t _ _ hb
    simp [execOp, ho, this]
  · cases h

end


theorem aappendX_ok {P : Program} {te : Nat → Option TI} (hte : TEok P te) {B : Nat} {ρ : Env} {H H' : Heap} {w : World} (hr : Rel B ρ H w) {st xt ty : Nat} {s x r : AV} {sv xv : Value} (hs : CA ρ s sv) (hx : CA ρ x xv)
    (h : aappendX te H st xt s x = some (r, H')) :
    ∃ rv w' ρ', (Builtin.append_ #[st, xt] ty #[sv, xv]).run P w = .ok rv w' ∧ CA ρ' r rv ∧ Rel B ρ' H' w' ∧ Step ρ H w ρ' H' w' := by
  unfold aappendX at h
  split at h
  case h_2 => exact aappend_ok hte hr hs hx h
  unfold aappendZ at h
  split at h
  case h_2 => cases h
  rename_i _ _ e _ _ _ _ k' _ _ _ m hst hxt
  split at h
  case h_2 => cases h
  rename_i ti hti
  split at h
  case isFalse => cases h
  rename_i hc
  obtain ⟨hm, hb, hb0, hsz0⟩ := hc
  injection h with h; cases h
  obtain ⟨rfl, _⟩ := hs
  obtain ⟨rfl, _⟩ := hx
  have hks : P.underlying st = some (.slice e) := (hte _ _ hst).kind
  have hkx : P.underlying xt = some (.int k') := (hte _ _ hxt).kind
  obtain ⟨i, hi, hi1, hi2, z, hz, hz'⟩ := (hte _ _ hti).info
  have hzsz := (hte _ _ hti).zsz
  have hzs : z.cells.size = ti.size := by rw [← Array.length_toList, hz', hzsz]
  obtain ⟨n, rfl⟩ : ∃ n : Nat, m = n := ⟨m.toNat, by omega⟩
  simp only [Int.toNat_natCast]
  have hn : 0 < n := by omega
  have eb : ((n * ti.bytes : Nat) : Int) = (n : Int) * (ti.bytes : Int) := Int.natCast_mul _ _
  have hb' : n * ti.bytes ≤ 70368744177664 := by rw [← eb] at hb; omega
  have hnb : n ≤ 70368744177664 := Nat.le_trans (Nat.le_mul_of_pos_right _ (by omega)) hb'
  have hwr : IntKind.i64.wrap (n : Int) = n := by rw [IntKind.wrap_i64]; omega
  have h48' := nextcap_ok (need := n) (old := 0) (by omega) hb'
  have hge := grownCap_ge w n 0 e
  have hal : Al2 (CS ρ) (zrep n (ti.zero.map .raw)) (Builtin.zeroCells z.cells n).toList := by
    have := zrow_al2 (za := z.cells) hz' (by rw [hzsz]; exact hsz0) (zero_al2 (ρ := ρ) (hte _ _ hti)) n
    simpa [Builtin.zeroCells, hzs, hzsz] using this
  have hsz1 : (Builtin.zeroCells z.cells n).size = n * ti.size := by rw [size_zeroCells, hzs]
  obtain ⟨hr', hstep'⟩ := (hr.drew (w.drawn + 1)).new (zrep n (ti.zero.map .raw)) (Builtin.zeroCells z.cells n ++ Builtin.zeroCells z.cells (grownCap w n 0 e - n)) e ti.size (grownCap w n 0 e)
    (fun j sv hj => by
      obtain ⟨v, h1, h2⟩ := hal.get hj
      refine ⟨v, ?_, h2⟩
      have hlt : j < (Builtin.zeroCells z.cells n).toList.length := (List.getElem?_eq_some_iff.1 h1).1
      rw [Array.getElem?_append_left (by simpa using hlt)]
      simpa using h1)
    (fun _ => by
      rw [Array.size_append, hsz1, size_zeroCells, hzs, ← Nat.add_mul]
      exact Nat.mul_le_mul_right _ (by omega))
  refine ⟨.slice (some ⟨w.heap.size, 0, none⟩) n (grownCap w n 0 e), _, _, ?_, ?_, hr', (Step.drew (w.drawn + 1)).trans hstep'⟩
  · have h0 : ¬ (n : Int) < 0 := by omega
    have h1 : ¬ (281474976710656 < (n : Int) * (ti.bytes : Int)) := by rw [← eb]; omega
    have h2 : ¬ (9223372036854775807 < (n : Int)) := by omega
    have h3 : n ≠ 0 := by omega
    simp [Builtin.append_, Go.run_underlying hks, Go.run_underlying hkx, sizeOf, typeInfo, zeroValue, hi, hi1, hi2, hz, asInt, asIntOf, hwr, h0, h1, h2, h3, hb0, hsz0, h48', Question.forced, run_firstCells_none, newRow, grownCap]
    intro h4
    exact absurd h4 (by have := Nat.mul_pos hn (Nat.pos_of_ne_zero hsz0); omega)
  · simp [CA, CS, LC, hge]
end Go.Abs
/-
  One operation on the abstract heap, the rest; and all of them in one.
-/
namespace Go.Abs
set_option linter.unusedVariables false
set_option linter.unusedSimpArgs false
open Go.RowKit

section
variable {P : Program} {te : Nat → Option TI} {B : Nat} {ρ : Env} {H H' : Heap} {w : World} {a : Act} {σ : Slots} {r : AV}

theorem run_bs {t e len : Nat} {ti : TI} (hu : P.underlying t = some (.slice e)) (ht : TIok P e ti) {zv : Value} (hz : (Go.zeroValue e).run P w = .ok zv w) (hc : len * ti.size ≤ 16777216) (hc2 : ti.size ≠ 0) (ps : Array (Nat × Value)) (cs' : Array Value)
    (h3 : Instr.fill (fun i => some (i * ti.size, ti.size)) ((Array.range (len * ti.size)).map (fun i => zv.cells[i % zv.cells.size]!)) ps.toList = some cs') (hlen : cs'.size = len * ti.size) :
    (Instr.buildSlice t len ps).run P w = .ok (.slice (some ⟨w.heap.size, 0, none⟩) len len) (w.alloc (.cells cs' e)) := by
  have hle : ¬ (16777216 < len * ti.size) := by omega
  by_cases h0 : len * ti.size = 0
  · have hl0 : len = 0 := by
      rcases Nat.mul_eq_zero.1 h0 with h | h
      · exact h
      · exact absurd h hc2
    subst hl0
    have e0 : Array.map (fun i => (default : Value)) (Array.range 0) = Array.map (fun i => zv.cells[i % zv.cells.size]!) (Array.range 0) := by simp [Array.range_zero']
    simp only [Nat.zero_mul] at h3
    rw [← e0] at h3
    simp [Instr.buildSlice, Go.run_underlying hu, ht.sizeOf, newRow]
    simp [h3]
  · have h0' : ¬ (len = 0 ∨ ti.size = 0) := by
      rintro (h | h)
      · exact h0 (by rw [h, Nat.zero_mul])
      · exact hc2 h
    have hl0 : len ≠ 0 := fun h => h0' (.inl h)
    simp [Instr.buildSlice, Go.run_underlying hu, ht.sizeOf, hl0, hc2, hle, hz, newRow]
    simp [h3, h0]

theorem ok_buildSlice (hte : TEok P te) (hr : Rel B ρ H w) {o : Oper} {t len : Nat} {parts : Array (Nat × Operand)} (ho : o.op = .buildSlice t len parts) (hp : ∀ p ∈ parts.toList, CA ρ (ev σ p.2) (a.eval p.2)) (h : aop te σ H o.op = some (r, H')) : OpOk P B ρ H w a o r H' := by
  rw [ho] at h
  simp only [aop] at h
  split at h
  case h_2 => cases h
  rename_i _ _ e _ _ hti
  split at h
  case h_2 => cases h
  rename_i ti hte'
  split at h
  case isFalse => cases h
  rename_i hc
  rw [Option.map_eq_some_iff] at h
  obtain ⟨cs, h1, h2⟩ := h
  cases h2
  have ht := hte _ _ hte'
  have hu : P.underlying t = some (.slice e) := (hte _ _ hti).kind
  obtain ⟨zv, hz, hz'⟩ := ht.zeroValue w
  have hzl : ti.zero.length = ti.size := ht.zsz
  have hz0 : ti.zero.length ≠ 0 := by rw [hzl]; exact hc.2
  have hrow := zrow_al2 (ρ := ρ) (za := zv.cells) hz' hz0 (zero_al2 ht) len
  obtain ⟨cs', h3, h4⟩ := afill_ok (ρ := ρ) (σ := σ) (a := a) (place := fun i => some (i * ti.size, ti.size)) parts.toList (zrep len (ti.zero.map .raw)) ((Array.range (len * ti.size)).map (fun i => zv.cells[i % zv.cells.size]!)) cs
    (by rw [Array.toList_map, Array.toList_range]; rw [hzl] at hrow; exact hrow) hp h1
  have hlen : cs'.size = len * ti.size := by
    have : ∀ (ps : List (Nat × Value)) (c c' : Array Value) (pl : Nat → Option (Nat × Nat)), Instr.fill pl c ps = some c' → c'.size = c.size := by
      intro ps
      induction ps with
      | nil => intro c c' pl hh; simp [Instr.fill] at hh; rw [hh]
      | cons p ps ih =>
        intro c c' pl hh
        simp only [Instr.fill] at hh
        split at hh
        · cases hh
        · split at hh
          · cases hh
          · rename_i off size _ _
            rw [ih _ _ _ hh]
            rw [← Array.length_toList, ← Array.foldl_toList, foldl_set_array]
            have : ∀ (l : List (Value × Nat)) (d : List Value), (l.foldl (fun cs p => cs.set (off + p.2) p.1) d).length = d.length := by
              intro l
              induction l with
              | nil => intro d; rfl
              | cons q l ih2 => intro d; simp [ih2]
            rw [this]; simp
    rw [this _ _ _ _ h3]; simp
  obtain ⟨h5, h6⟩ := hr.new cs cs' e ti.size len (fun j sv hj => by
    obtain ⟨v, h7, h8⟩ := h4.get hj
    exact ⟨v, by rw [← Array.getElem?_toList]; exact h7, h8⟩) (fun _ => by rw [hlen]; exact Nat.le_refl _)
  refine ⟨.value (.slice (some ⟨w.heap.size, 0, none⟩) len len), _, _, ?_, .inl ⟨_, rfl, ?_⟩, h5, h6⟩
  · have hb := run_bs (P := P) hu ht hz hc.1 hc.2 (parts.map fun (i, x) => (i, a.eval x)) cs' (by simpa using h3) hlen
    simp only [execOp, ho, Sem.run_bind]
    rw [hb]
    simp
  · simp [CA, CS, LC]

/-- a bound of a slice expression, and its number -/
def BoundIs (v : Option Value) (n : Option Int) : Prop :=
  match v, n with
  | none, none => True
  | some v, some n => ∃ k, v = .int k n
  | _, _ => False

theorem oint_ok {lo : Option Operand} {n : Option Int} (hlo : ∀ y, lo = some y → CA ρ (ev σ y) (a.eval y)) (h : oint (lo.map (ev σ)) = some n) : BoundIs (lo.map a.eval) n := by
  cases lo with
  | none => simp [oint] at h; subst h; trivial
  | some y =>
    have := hlo y rfl
    simp only [Option.map_some] at h ⊢
    unfold oint at h
    split at h
    · rename_i hh; cases hh
    · rename_i k m hh
      injection hh with hh
      injection h with h; subst h
      rw [hh] at this
      exact ⟨k, this.1⟩
    · cases h

theorem run_slice_gen {t e sz : Nat} (hu : P.underlying t = some (.slice e)) (hs : ∀ w, (Go.sizeOf e).run P w = .ok sz w) (ad : Option Addr) (len cap : Nat) {lov hiv : Option Value} {lo hi : Option Int}
    (hlo : BoundIs lov lo) (hhi : BoundIs hiv hi) (h0 : 0 ≤ lo.getD 0) (h1 : lo.getD 0 ≤ hi.getD len) (h2 : hi.getD len ≤ cap) (w : World) :
    (Instr.sliceAt t (.slice ad len cap) lov hiv none).run P w =
      .ok (.slice (if cap = (lo.getD 0).toNat then ad else ad.map (·.add ((lo.getD 0).toNat * sz))) ((hi.getD len).toNat - (lo.getD 0).toNat) (cap - (lo.getD 0).toNat)) w := by
  cases lov <;> cases lo <;> simp only [BoundIs] at hlo <;> cases hiv <;> cases hi <;> simp only [BoundIs] at hhi
  · simp [Instr.sliceAt, Instr.slice, Instr.sliceBounds, Go.run_underlying hu, hs]
  · obtain ⟨k, rfl⟩ := hhi
    simp at h0 h1 h2
    simp [Instr.sliceAt, Instr.slice, Instr.sliceBounds, Instr.sliceBound, asIntOf, Go.run_underlying hu, hs, h1, h2]
  · obtain ⟨k, rfl⟩ := hlo
    simp at h0 h1 h2
    simp [Instr.sliceAt, Instr.slice, Instr.sliceBounds, Instr.sliceBound, asIntOf, Go.run_underlying hu, hs, h0, h1]
  · obtain ⟨k, rfl⟩ := hlo
    obtain ⟨k', rfl⟩ := hhi
    simp at h0 h1 h2
    rename_i l h
    have h3 : 0 ≤ h := by omega
    have h4 : l ≤ max h 0 := by omega
    have h5 : ((h.toNat : Nat) : Int) = h := by omega
    simp [Instr.sliceAt, Instr.slice, Instr.sliceBounds, Instr.sliceBound, asIntOf, Go.run_underlying hu, hs, h0, h1, h2, h3, h4]

theorem ok_slice (hte : TEok P te) (hr : Rel B ρ H w) {o : Oper} {t : Nat} {x : Operand} {lo hi : Option Operand} (ho : o.op = .slice t x lo hi none) (hx : CA ρ (ev σ x) (a.eval x))
    (hlo : ∀ y, lo = some y → CA ρ (ev σ y) (a.eval y)) (hhi : ∀ y, hi = some y → CA ρ (ev σ y) (a.eval y)) (h : aop te σ H o.op = some (r, H')) : OpOk P B ρ H w a o r H' := by
  rw [ho] at h
  simp only [aop, aslice] at h
  split at h
  case h_2 => cases h
  rename_i _ _ e _ _ lo' hi' hti hlo' hhi'
  have hu : P.underlying t = some (.slice e) := (hte _ _ hti).kind
  have hbl := oint_ok hlo hlo'
  have hbh := oint_ok hhi hhi'
  split at h
  · rename_i ti he hex
    split at h
    case isFalse => cases h
    rename_i hc
    injection h with h; cases h
    rw [hex] at hx ⊢
    obtain ⟨hx, _⟩ := hx
    have := run_slice_gen (P := P) hu (hte _ _ he).sizeOf none 0 0 hbl hbh (by rw [hc.1]; exact Int.le_refl _) (by rw [hc.1]; simp; rw [hc.2]; exact Int.le_refl _) (by simp; rw [hc.2]; exact Int.le_refl _) w
    refine opok_quiet hr (rv := .slice none 0 0) ?_ ⟨rfl, rfl⟩
    simp [execOp, ho, hx, this, hc.1]
    omega
  · rename_i ti b off len gr he hex
    split at h
    case h_2 => cases h
    rename_i blk hb
    split at h
    case isFalse => cases h
    rename_i hc
    obtain ⟨hc1, hc2, hc3⟩ := hc
    rw [hex] at hx
    obtain ⟨cb, co, cc, oo, c, hat, hlc, hoo, hv, hgr⟩ := sl_at hr hx hb
    have hrun := run_slice_gen (P := P) hu (hte _ _ he).sizeOf (some ⟨cb, oo, none⟩) len c hbl hbh hc1 hc2 (by omega) w
    have hex' : (execOp a.eval o).run P w = .ok (.value (.slice (if c = (lo'.getD 0).toNat then some ⟨cb, oo, none⟩ else (some (⟨cb, oo, none⟩ : Addr)).map (·.add ((lo'.getD 0).toNat * ti.size))) ((hi'.getD len).toNat - (lo'.getD 0).toNat) (c - (lo'.getD 0).toNat))) w := by
      simp only [execOp, ho, hv, Option.map_none, Sem.run_bind, hrun, Result.andThen_ok, Sem.run_pure]
    split at h
    · rename_i hz
      obtain ⟨hz1, hz2, hz3, hz4⟩ := hz
      injection h with h; cases h
      subst hz2
      obtain ⟨rfl, rfl, rfl⟩ := hgr hz3
      obtain ⟨h1, h2⟩ := hr.moved hat hb hz4
      have hm1 : (Heap.push (H.set b none) blk).m H.n = some blk := Heap.push_same (H.set b none) blk
      have key : Rel B ((ρ.put b .dead).put H.n (.at_ cb oo c)) ((H.set b none).push { blk with cells := [] }) w ∧ Step ρ H w ((ρ.put b .dead).put H.n (.at_ cb oo c)) ((H.set b none).push { blk with cells := [] }) w := by
        have hp : ∀ (b' : Nat) (x : Blk), ((H.set b none).push { blk with cells := [] }).m b' = some x → ∃ y : Blk, ((H.set b none).push blk).m b' = some y ∧ y.wr = x.wr ∧ y.esz = x.esz ∧ (∀ (j : Nat) (s : SV), x.cells[j]? = some s → y.cells[j]? = some s) := by
          intro b' x hx'
          by_cases e : b' = H.n
          · subst e
            have : ((H.set b none).push { blk with cells := [] }).m H.n = some { blk with cells := [] } := Heap.push_same (H.set b none) _
            rw [this] at hx'; cases hx'
            exact ⟨blk, hm1, rfl, rfl, fun j s hj => by simp at hj⟩
          · rw [Heap.push_ne _ _ (by simpa using e)] at hx'
            exact ⟨x, by rw [Heap.push_ne _ _ (by simpa using e)]; exact hx', rfl, rfl, fun _ _ h => h⟩
        refine hr.with ⟨⟨h1.hB, h1.fresh, ?_, ?_, ?_⟩, ⟨h2.os, h2.tape, h2.output, h2.size, h2.keep, ?_, h2.le, h2.new, h2.n, h2.abs, h2.memn⟩⟩
        · intro b' x hx'; obtain ⟨y, hy, _⟩ := hp b' x hx'; exact h1.live b' y hy
        · intro b' cb' co' cc' x g1 g2
          obtain ⟨y, hy, hy1, hy2, hy3⟩ := hp b' x g2
          obtain ⟨C, T, fz, k1, k2, k3, k4⟩ := h1.blk b' cb' co' cc' y g1 hy
          exact ⟨C, T, fz, k1, fun j s hj => k2 j s (hy3 j s hj), by rw [← hy1]; exact k3, by rw [← hy2]; exact k4⟩
        · intro b1 b2 k co1 cc1 co2 cc2 x1 x2 hne g1 g2 g3 g4
          obtain ⟨y1, k1, k2, _⟩ := hp _ _ g3
          obtain ⟨y2, k3, k4, _⟩ := hp _ _ g4
          have := h1.sep b1 b2 k co1 cc1 co2 cc2 y1 y2 hne g1 g2 k1 k3
          rw [← k2, ← k4]; exact this
        · rintro k ⟨b', co', cc', x, g1, g2, g3⟩
          obtain ⟨y, hy, hy1, _⟩ := hp b' x g2
          exact h2.own k ⟨b', co', cc', y, g1, hy, by rw [hy1]; exact g3⟩
      refine ⟨_, w, _, hex', .inl ⟨_, rfl, ?_⟩, key.1, key.2⟩
      simp only [Option.getD_none, CA, CS, LC, Env.put_same]
      refine ⟨trivial, Nat.zero_le _, ?_⟩
      rw [hz1]
      by_cases e : c = 0
      · simp [e]
      · have e' : ¬ (c = (0 : Int).toNat) := by simpa using e
        simp [Addr.add_lit, e]
    · injection h with h; cases h
      refine opok_quiet hr hex' ?_
      simp only [CA, CS, LC, hat]
      refine ⟨c - (lo'.getD 0).toNat, if c = (lo'.getD 0).toNat then oo else oo + (lo'.getD 0).toNat * ti.size, by omega, ?_, ?_⟩
      · intro hne
        have : len ≠ 0 := by omega
        rw [hoo this, if_neg (by omega)]; omega
      · by_cases e : c = (lo'.getD 0).toNat <;> simp [e, Addr.add_lit]
  · rename_i ti n cells he hex
    split at h
    case isFalse => cases h
    rename_i hc
    obtain ⟨hc1, hc2, hc3⟩ := hc
    injection h with h; cases h
    rw [hex] at hx
    simp only [CA, CS] at hx
    obtain ⟨ad, c, cb, co, hv, hlc, ha, hcn, hm⟩ := hx
    have hrun := run_slice_gen (P := P) hu (hte _ _ he).sizeOf ad n c hbl hbh hc1 hc2 (by omega) w
    have hex' : (execOp a.eval o).run P w = .ok (.value (.slice (if c = (lo'.getD 0).toNat then ad else ad.map (·.add ((lo'.getD 0).toNat * ti.size))) ((hi'.getD n).toNat - (lo'.getD 0).toNat) (c - (lo'.getD 0).toNat))) w := by
      simp only [execOp, ho, hv, Option.map_none, Sem.run_bind, hrun, Result.andThen_ok, Sem.run_pure]
    refine opok_quiet hr hex' ?_
    simp only [CA, CS]
    refine ⟨_, _, cb, co + (lo'.getD 0).toNat * ti.size, rfl, by omega, fun hne => ?_, fun hn => ?_, MS_take (MS_drop hm _) _⟩
    · rw [ha (by omega), if_neg (by omega)]
      simp [Addr.add_lit]
    · cases ad with
      | none => have := hcn rfl; omega
      | some ad => split at hn <;> simp at hn
  · cases h

theorem ptrs_ok : ∀ {xs : List Operand} {ps : List (Nat × Nat)}, ptrs (xs.map (ev σ)) = some ps → (∀ x ∈ xs, CA ρ (ev σ x) (a.eval x)) → Al2 (fun p v => PC ρ p.1 p.2 v) ps (xs.map a.eval)
  | [], ps, h, _ => by simp [ptrs] at h; subst h; trivial
  | x :: xs, ps, h, hc => by
    simp only [List.map_cons] at h
    unfold ptrs at h
    split at h
    · rename_i hh; cases hh
    · rename_i b off ys hh
      injection hh with h1 h2
      subst h2
      rw [Option.map_eq_some_iff] at h
      obtain ⟨qs, h3, rfl⟩ := h
      have := hc x (by simp)
      rw [h1] at this
      exact ⟨this, ptrs_ok h3 fun y hy => hc y (by simp [hy])⟩
    · cases h

theorem ok_builtin (hte : TEok P te) (hr : Rel B ρ H w) {o : Oper} {b : Builtin} {args : Array Operand} {ts : Array Nat} (ho : o.op = .call { callee := .builtin b, args := args, argTypes := ts })
    (hx : ∀ x ∈ args.toList, CA ρ (ev σ x) (a.eval x)) (h : aop te σ H o.op = some (r, H')) : OpOk P B ρ H w a o r H' := by
  obtain ⟨args⟩ := args
  obtain ⟨ts⟩ := ts
  rw [ho] at h
  simp only [aop] at h
  unfold abuiltin at h
  split at h
  · -- len
    rename_i x t hargs
    obtain ⟨y, rfl, rfl⟩ : ∃ y, args = [y] ∧ ev σ y = x := by
      cases args with
      | nil => simp at hargs
      | cons y ys => cases ys <;> simp at hargs; exact ⟨y, rfl, hargs⟩
    have hxy := hx y (by simp)
    split at h
    · rename_i _ _ e _ _ hti hev
      injection h with h; cases h
      rw [hev] at hxy
      obtain ⟨hv, _⟩ := hxy
      have hu : P.underlying t = some (.slice e) := (hte _ _ hti).kind
      exact opok_quiet hr (rv := .int .i64 0) (by simp [execOp, ho, resolve, invoke, builtin, Builtin.len_, Go.run_underlying hu, hv, goInt]) ⟨rfl, rfl⟩
    · rename_i _ _ e _ _ b off n gr hti hev
      split at h
      case h_2 => cases h
      rename_i blk hb
      injection h with h; cases h
      rw [hev] at hxy
      obtain ⟨cb, co, cc, oo, c, hat, hlc, hoo, hv, _⟩ := sl_at hr hxy hb
      have hu : P.underlying t = some (.slice e) := (hte _ _ hti).kind
      exact opok_quiet hr (rv := .int .i64 n) (by simp [execOp, ho, resolve, invoke, builtin, Builtin.len_, Go.run_underlying hu, hv, goInt]) ⟨rfl, rfl⟩
    · rename_i _ _ e _ _ n cells hti hev
      injection h with h; cases h
      rw [hev] at hxy
      simp only [CA, CS] at hxy
      obtain ⟨ad, c, cb, co, hv, _⟩ := hxy
      have hu : P.underlying t = some (.slice e) := (hte _ _ hti).kind
      exact opok_quiet hr (rv := .int .i64 n) (by simp [execOp, ho, resolve, invoke, builtin, Builtin.len_, Go.run_underlying hu, hv, goInt]) ⟨rfl, rfl⟩
    · rename_i _ _ e _ _ hti hev
      injection h with h; cases h
      rw [hev] at hxy
      simp only [CA, CS] at hxy
      obtain ⟨ad, c, hv⟩ := hxy
      have hu : P.underlying t = some (.slice e) := (hte _ _ hti).kind
      exact opok_quiet hr (rv := .int .i64 0) (by simp [execOp, ho, resolve, invoke, builtin, Builtin.len_, Go.run_underlying hu, hv, goInt]) ⟨rfl, rfl⟩
    · cases h
  · -- cap
    rename_i x t hargs
    obtain ⟨y, rfl, rfl⟩ : ∃ y, args = [y] ∧ ev σ y = x := by
      cases args with
      | nil => simp at hargs
      | cons y ys => cases ys <;> simp at hargs; exact ⟨y, rfl, hargs⟩
    have hxy := hx y (by simp)
    split at h
    · rename_i _ _ e _ _ hti hev
      injection h with h; cases h
      rw [hev] at hxy
      obtain ⟨hv, _⟩ := hxy
      have hu : P.underlying t = some (.slice e) := (hte _ _ hti).kind
      exact opok_quiet hr (rv := .int .i64 0) (by simp [execOp, ho, resolve, invoke, builtin, Builtin.cap_, Go.run_underlying hu, hv, goInt]) ⟨rfl, rfl⟩
    · cases h
  · -- append
    rename_i s x st xt hargs
    obtain ⟨y, z, rfl, rfl, rfl⟩ : ∃ y z, args = [y, z] ∧ ev σ y = s ∧ ev σ z = x := by
      cases args with
      | nil => simp at hargs
      | cons y ys => cases ys with
        | nil => simp at hargs
        | cons z zs => cases zs <;> simp at hargs; exact ⟨y, z, rfl, hargs.1, hargs.2⟩
    obtain ⟨rv, w', ρ', h1, h2, h3, h4⟩ := aappendX_ok hte hr (ty := o.type) (hx y (by simp)) (hx z (by simp)) h
    exact ⟨.value rv, w', ρ', by simp [execOp, ho, resolve, invoke, builtin, h1], .inl ⟨rv, rfl, h2⟩, h3, h4⟩
  · -- max
    rename_i k x k' y hargs
    obtain ⟨u, v, rfl, hu, hv⟩ : ∃ u v, args = [u, v] ∧ ev σ u = .s (.raw (.int k x)) ∧ ev σ v = .s (.raw (.int k' y)) := by
      cases args with
      | nil => simp at hargs
      | cons u us => cases us with
        | nil => simp at hargs
        | cons v vs => cases vs <;> simp at hargs; exact ⟨u, v, rfl, hargs.1, hargs.2⟩
    injection h with h; cases h
    have h1 := hx u (by simp); have h2 := hx v (by simp)
    rw [hu] at h1; rw [hv] at h2
    exact opok_quiet hr (rv := .int k (if y > x then y else x)) (by simp [execOp, ho, resolve, invoke, builtin, h1.1, h2.1, run_max_int2]) ⟨rfl, rfl⟩
  · -- min
    rename_i k x k' y hargs
    obtain ⟨u, v, rfl, hu, hv⟩ : ∃ u v, args = [u, v] ∧ ev σ u = .s (.raw (.int k x)) ∧ ev σ v = .s (.raw (.int k' y)) := by
      cases args with
      | nil => simp at hargs
      | cons u us => cases us with
        | nil => simp at hargs
        | cons v vs => cases vs <;> simp at hargs; exact ⟨u, v, rfl, hargs.1, hargs.2⟩
    injection h with h; cases h
    have h1 := hx u (by simp); have h2 := hx v (by simp)
    rw [hu] at h1; rw [hv] at h2
    exact opok_quiet hr (rv := .int k (if y < x then y else x)) (by simp [execOp, ho, resolve, invoke, builtin, h1.1, h2.1, run_min_int2]) ⟨rfl, rfl⟩
  · cases h

/-- **Whatever operation the evaluator takes, the machine does it.** -/
theorem aop_ok (hte : TEok P te) (hr : Rel B ρ H w) {o : Oper} (hx : ∀ x ∈ o.op.operands.toList, CA ρ (ev σ x) (a.eval x)) (h : aop te σ H o.op = some (r, H')) : OpOk P B ρ H w a o r H' := by
  have h0 := h
  cases ho : o.op with
  | move x =>
    rw [ho] at h hx; simp only [aop] at h; injection h with h; cases h
    exact opok_quiet hr (by simp [execOp, ho]) (hx x (by simp [Op.operands]))
  | assign x =>
    rw [ho] at h hx; simp only [aop] at h; injection h with h; cases h
    exact opok_quiet hr (by simp [execOp, ho]) (hx x (by simp [Op.operands]))
  | pick c x y =>
    rw [ho] at h hx; simp only [aop] at h
    split at h
    · rename_i t he
      injection h with h; cases h
      have hc := hx c (by simp [Op.operands])
      rw [he] at hc
      have hxx := hx x (by simp [Op.operands]); have hyy := hx y (by simp [Op.operands])
      cases t
      · exact opok_quiet hr (by simp [execOp, ho, hc.1, asBool]) hyy
      · exact opok_quiet hr (by simp [execOp, ho, hc.1, asBool]) hxx
    · cases h
  | alloc t => exact ok_alloc hte hr ho h0
  | box t x => rw [ho] at hx; exact ok_box hr ho (hx x (by simp [Op.operands])) h0
  | build t ps => rw [ho] at hx; exact ok_build hte hr ho (fun p hp => hx p.2 (by simp [Op.operands]; exact ⟨p.1, by simpa using hp⟩)) h0
  | buildSlice t n ps => rw [ho] at hx; exact ok_buildSlice hte hr ho (fun p hp => hx p.2 (by simp [Op.operands]; exact ⟨p.1, by simpa using hp⟩)) h0
  | load t x => rw [ho] at hx; exact ok_load hte hr ho (hx x (by simp [Op.operands])) h0
  | store t x y => rw [ho] at hx; exact ok_store hte hr ho (hx x (by simp [Op.operands])) (hx y (by simp [Op.operands])) h0
  | nilCheck x =>
    rw [ho] at h hx; simp only [aop] at h
    split at h
    · rename_i b off he
      split at h
      · rename_i blk hb
        injection h with h; cases h
        have hxx := hx x (by simp [Op.operands])
        rw [he] at hxx
        obtain ⟨cb, co, cc, hat, hv⟩ := ptr_at hr hxx hb
        exact opok_quiet hr (rv := .pointer (some ⟨cb, co + off, none⟩)) (by simp [execOp, ho, hv]) (by simp [CA, CS, PC, hat])
      · cases h
    · rename_i cells he
      injection h with h; cases h
      have hxx := hx x (by simp [Op.operands])
      rw [he] at hxx
      have hxx' := hxx
      simp only [CA, CS] at hxx'
      obtain ⟨cb, co, hv, hm⟩ := hxx'
      exact opok_quiet hr (rv := .pointer (some ⟨cb, co, none⟩)) (by simp [execOp, ho, hv]) (by rw [← hv]; exact hxx)
    · cases h
  | binOp op t x y t' =>
    rw [ho] at h hx; simp only [aop] at h
    rw [Option.map_eq_some_iff] at h
    obtain ⟨r', h1, h2⟩ := h
    cases h2
    obtain ⟨v, h3, h4⟩ := abin_ok (x := x) (y := y) hte hr (hx x (by simp [Op.operands])) (hx y (by simp [Op.operands])) h1
    exact opok_quiet hr (by simp only [execOp, ho, Sem.run_bind]; rw [← Sem.run_bind, h3]; rfl) h4
  | unOp op t x =>
    rw [ho] at h hx; simp only [aop] at h
    have hxx := hx x (by simp [Op.operands])
    split at h
    · rename_i b he
      injection h with h; cases h
      rw [he] at hxx
      exact opok_quiet hr (rv := .bool (!b)) (by simp [execOp, ho, hxx.1, Op.unary]) ⟨rfl, rfl⟩
    · rename_i k n he
      injection h with h; cases h
      rw [he] at hxx
      exact opok_quiet hr (rv := .int k (k.wrap (0 - n))) (by simp [execOp, ho, hxx.1, Op.unary, Op.intArith]) ⟨rfl, rfl⟩
    · cases h
  | convert src dst x =>
    rw [ho] at h hx; simp only [aop] at h
    have hxx := hx x (by simp [Op.operands])
    split at h
    · rename_i ts _ _ k _ _ k' n hts htd he
      injection h with h; cases h
      rw [he] at hxx
      have hud : P.underlying dst = some (.int k) := (hte _ _ htd).kind
      have hus : ∃ d, P.underlying src = some d := by
        have := (hte _ _ hts).kind
        revert this
        cases ts.kind <;> intro this
        · obtain ⟨f, h1, _⟩ := this; exact ⟨_, h1⟩
        · exact ⟨_, this⟩
        · exact ⟨_, this⟩
        · exact ⟨_, this⟩
        · exact ⟨_, this⟩
        · obtain ⟨d, h1, _⟩ := this; exact ⟨_, h1⟩
      obtain ⟨d, hd⟩ := hus
      exact opok_quiet hr (rv := .int k (k.wrap n)) (by simp [execOp, ho, hxx.1, convert, Go.run_underlying hud, Go.run_underlying hd, Conv.intToInt]) ⟨rfl, rfl⟩
    · cases h
  | makeFunc fn first captured =>
    rw [ho] at h hx
    cases fn with
    | func f =>
      simp only [aop] at h
      split at h
      · rename_i h0'
        rw [Option.map_eq_some_iff] at h
        obtain ⟨ps, h1, h2⟩ := h
        cases h2
        have hp := ptrs_ok h1 (fun x hx' => hx x (by simp [Op.operands]; exact .inr (by simpa using hx')))
        have hf : first = #[] := Array.eq_empty_of_size_eq_zero h0'
        refine opok_quiet hr (rv := .func (.func f) #[] (captured.toList.map a.eval).toArray) ?_ ⟨_, hp, rfl⟩
        simp [execOp, ho, Instr.makeFunc, hf]
        apply Array.ext'; simp
      · cases h
    | _ => simp [aop] at h
  | slice t x lo hi mx =>
    cases mx with
    | none => rw [ho] at hx; exact ok_slice hte hr ho (hx x (by simp [Op.operands])) (fun y hy => hx y (by subst hy; simp [Op.operands])) (fun y hy => hx y (by subst hy; simp [Op.operands])) h0
    | some m => rw [ho] at h; simp [aop] at h
  | fieldAddr s x f => rw [ho] at hx; exact ok_fieldAddr hte hr ho (hx x (by simp [Op.operands])) h0
  | indexAddr t x ix => rw [ho] at hx; exact ok_indexAddr hte hr ho (hx x (by simp [Op.operands])) (hx ix (by simp [Op.operands])) h0
  | extract x i =>
    rw [ho] at h hx; simp only [aop] at h
    have hxx := hx x (by simp [Op.operands])
    split at h
    · rename_i cs he
      rw [Option.map_eq_some_iff] at h
      obtain ⟨c, h1, h2⟩ := h
      cases h2
      rw [he] at hxx
      obtain ⟨vs, h3, h4⟩ := hxx
      obtain ⟨v, h5, h6⟩ := h3.get h1
      exact opok_quiet hr (rv := v) (by simp [execOp, ho, h4, Instr.extract, h5]) h6.av
    · cases h
  | call c =>
    obtain ⟨callee, args, ts⟩ := c
    cases callee with
    | builtin b => rw [ho] at hx; exact ok_builtin hte hr ho (fun x hx' => hx x (by simp [Op.operands, Call.operands]; simpa using hx')) h0
    | value f => rw [ho] at h; simp [aop] at h
    | invoke r m => rw [ho] at h; simp [aop] at h
  | _ => rw [ho] at h; simp [aop] at h

end

end Go.Abs
/-
  The conditions of a piece of code, and that they suffice.
-/
namespace Go.Abs
set_option linter.unusedVariables false
set_option linter.unusedSimpArgs false
open Go.RowKit

def AV.cmp : AV → Option Cmp
  | .s x => some (.s x)
  | .agg xs => some (.agg xs)
  | _ => none

def cmps : List AV → Option (List Cmp)
  | [] => some []
  | x :: xs => match x.cmp, cmps xs with
    | some c, some cs => some (c :: cs)
    | _, _ => none

/-- A call of a Go function: which, and its arguments (what it has captured behind them). -/
def callOf (σ : Slots) : Op → Option (FuncId × List Cmp)
  | .call { callee := .value f, args := args, .. } =>
    match ev σ f with
    | .s (.fn g caps) => (cmps (args.toList.map (ev σ))).map fun cs => (g, cs ++ caps.map fun p => .s (.ptr p.1 p.2))
    | _ => none
  | _ => none

/-- **A contract**: what may be handed back, with which heap. -/
def ACallsR (P : Program) (f : FuncId) (args : List Cmp) (H : Heap) (R : AV → Heap → Prop) : Prop :=
  (∀ args w, (callFunc f args).run P w = .ok (.enter f args) w) ∧
  ∀ (B : Nat) (ρ : Env) (w : World) (cargs : List Value), Rel B ρ H w → Al2 (CC ρ) args cargs →
    Calls P f cargs.toArray w fun e w' => ∃ (rv : Value) (ρ' : Env) (r : AV) (H' : Heap), e = .returned rv ∧ CA ρ' r rv ∧ Rel B ρ' H' w' ∧ Step ρ H w ρ' H' w' ∧ R r H'

/-- the result and the heap are known -/
def ACalls (P : Program) (f : FuncId) (args : List Cmp) (H : Heap) (r : AV) (H' : Heap) : Prop := ACallsR P f args H fun r1 H1 => r1 = r ∧ H1 = H'

def CallV (P : Program) (f : FuncId) (args : List Cmp) (H : Heap) (K : AV → Heap → Prop) : Prop := ∃ R, ACallsR P f args H R ∧ ∀ r H', R r H' → K r H'

theorem callv_pure {P : Program} {f : FuncId} {args : List Cmp} {H : Heap} {r : AV} {H' : Heap} {K : AV → Heap → Prop} (h : ACalls P f args H r H') (k : K r H') : CallV P f args H K :=
  ⟨_, h, fun _ _ ⟨h1, h2⟩ => by subst h1 h2; exact k⟩

theorem callv {P : Program} {f : FuncId} {args : List Cmp} {H : Heap} {R : AV → Heap → Prop} {K : AV → Heap → Prop} (h : ACallsR P f args H R) (k : ∀ r H', R r H' → K r H') : CallV P f args H K := ⟨_, h, k⟩

def wantedA (all : Array Oper) (σ : Slots) (o : Oper) : Option Bool :=
  match o.guard with
  | none => some true
  | some (j, want) =>
    match (all[j]?).bind (·.dst) with
    | some d =>
      match σ d with
      | .s (.raw (.bool b)) => some (b == want)
      | .tup _ => some false
      | _ => none
    | none => none

def VOps (P : Program) (te : Nat → Option TI) (all : Array Oper) : List Oper → Slots → Heap → (Slots → Heap → Prop) → Prop
  | [], σ, H, K => K σ H
  | o :: rest, σ, H, K =>
    match wantedA all σ o with
    | some true =>
      match callOf σ o.op with
      | some (f, args) => CallV P f args H fun r H' => VOps P te all rest (Upd σ o.dst r) H' K
      | none =>
        match aop te σ H o.op with
        | some (r, H') => VOps P te all rest (Upd σ o.dst r) H' K
        | none => False
    | some false => VOps P te all rest (Upd σ o.dst (.tup [])) H K
    | none => False

def opdOk (N : Nat) : Operand → Bool
  | .tmp t => t < N
  | _ => true

def dstOk (N : Nat) : Option Tmp → Bool
  | some d => d < N
  | none => true

def operOk (N : Nat) (o : Oper) : Bool := o.op.operands.toList.all (opdOk N) && dstOk N o.dst

/-- a world, and a frame, that fit -/
def Fits (B : Nat) (N : Nat) (ds : List Deferred) (ρ : Env) (σ : Slots) (H : Heap) (a : Act) (w : World) : Prop :=
  Rel B ρ H w ∧ SlotsR ρ σ a.tmps ∧ a.tmps.size = N ∧ a.defers = ds

/-- what is said of an end -/
def QC (B N : Nat) (ds : List Deferred) (ρ : Env) (H : Heap) (w : World) (Q : Exit → Slots → Heap → Prop) (e : Exit) (a' : Act) (w' : World) : Prop :=
  ∃ ρ' σ' H', Step ρ H w ρ' H' w' ∧ Fits B N ds ρ' σ' H' a' w' ∧ Q e σ' H'

theorem QC.step {B N : Nat} {ds : List Deferred} {ρ ρ1 : Env} {H H1 : Heap} {w w1 : World} {Q : Exit → Slots → Heap → Prop} (hs : Step ρ H w ρ1 H1 w1) {e : Exit} {a' : Act} {w' : World} (h : QC B N ds ρ1 H1 w1 Q e a' w') : QC B N ds ρ H w Q e a' w' := by
  obtain ⟨ρ', σ', H', h1, h2, h3⟩ := h
  exact ⟨ρ', σ', H', hs.trans h1, h2, h3⟩

def FW (ro : Option Nat) : Fence := { Fence.wide with round := ro }

theorem callsIn_FW {ro : Option Nat} {n : Nat} {P : Program} {f : FuncId} {args : Array Value} {w : World} {R : Ending → World → Prop} (h : Calls P f args w R) : CallsIn (FW ro) n P f args w R :=
  callsIn_wide.2 h

section
variable {P : Program} {te : Nat → Option TI} {B N : Nat} {ds : List Deferred} {ρ : Env} {H : Heap} {w : World} {a : Act} {σ : Slots}

theorem Fits.ev (h : Fits B N ds ρ σ H a w) {x : Operand} (hx : opdOk N x = true) : CA ρ (ev σ x) (a.eval x) := by
  refine ev_ok fun t ht => ?_
  subst ht
  have : t < N := by simpa [opdOk] using hx
  exact h.2.1 t (by rw [h.2.2.1]; exact this)

theorem wanted_ok {ops : Array Oper} {o : Oper} {b : Bool} (h : wantedA ops σ o = some b) (hs : ∀ d, ((ops[(o.guard.map (·.1)).getD 0]?).bind (·.dst)) = some d → d < a.tmps.size ∧ CA ρ (σ d) (a.tmps.getD d undef)) : Region.wanted o (yielded ops a.tmps) = b := by
  unfold wantedA at h
  unfold Region.wanted
  cases hg : o.guard with
  | none => rw [hg] at h; simpa using h
  | some p =>
    obtain ⟨j, want⟩ := p
    rw [hg] at h
    simp only [hg, Option.map_some, Option.getD_some] at hs
    simp only at h ⊢
    cases hd : (ops[j]?).bind (·.dst) with
    | none => rw [hd] at h; cases h
    | some d =>
      rw [hd] at h
      simp only at h
      obtain ⟨h1, h2⟩ := hs d hd
      split at h
      · rename_i c he
        injection h with h; subst h
        rw [he] at h2
        have hv : a.tmps[d]? = some (.bool c) := by
          have := h2.1
          simp [Array.getD, h1] at this
          simp [h1, this]
        simp [yielded, hd, hv]
      · rename_i cs he
        injection h with h; subst h
        rw [he] at h2
        obtain ⟨vs, _, h2⟩ := h2
        have hv : a.tmps[d]? = some (.tuple vs.toArray) := by
          simp [Array.getD, h1] at h2
          simp [h1, h2]
        simp [yielded, hd, hv]
      · cases h

theorem cmps_ok : ∀ {xs : List Operand} {cs : List Cmp}, cmps (xs.map (ev σ)) = some cs → (∀ x ∈ xs, CA ρ (ev σ x) (a.eval x)) → Al2 (CC ρ) cs (xs.map a.eval)
  | [], cs, h, _ => by simp [cmps] at h; subst h; trivial
  | x :: xs, cs, h, hc => by
    simp only [List.map_cons, cmps] at h
    split at h
    · rename_i c cs' h1 h2
      injection h with h; subst h
      refine ⟨?_, cmps_ok h2 fun y hy => hc y (by simp [hy])⟩
      have := hc x (by simp)
      unfold AV.cmp at h1
      split at h1
      · rename_i he; injection h1 with h1; subst h1; rw [he] at this; exact this
      · rename_i he; injection h1 with h1; subst h1; rw [he] at this; exact this
      · cases h1
    · cases h

theorem caps_ok : ∀ {caps : List (Nat × Nat)} {vs : List Value}, Al2 (fun p v => PC ρ p.1 p.2 v) caps vs → Al2 (CC ρ) (caps.map fun p => Cmp.s (.ptr p.1 p.2)) vs
  | [], [], _ => trivial
  | p :: caps, v :: vs, h => ⟨h.1, caps_ok h.2⟩
  | [], _ :: _, h => h.elim
  | _ :: _, [], h => h.elim

/-- A call: what it comes to. -/
theorem call_run {o : Oper} {f : FuncId} {args : List Cmp} (h : callOf σ o.op = some (f, args)) (hx : ∀ x ∈ o.op.operands.toList, CA ρ (ev σ x) (a.eval x)) (he : ∀ args w, (callFunc f args).run P w = .ok (.enter f args) w) (w : World) :
    ∃ cargs : List Value, (execOp a.eval o).run P w = .ok (.enter f cargs.toArray) w ∧ Al2 (CC ρ) args cargs := by
  unfold callOf at h
  split at h
  · rename_i fo xs ts ho
    split at h
    · rename_i g caps hev
      rw [Option.map_eq_some_iff] at h
      obtain ⟨cs, h1, h2⟩ := h
      cases h2
      have hf := hx fo (by rw [ho]; simp [Op.operands, Call.operands])
      rw [hev] at hf
      obtain ⟨vs, hv1, hv2⟩ := hf
      refine ⟨xs.toList.map a.eval ++ vs, ?_, ?_⟩
      · simp [execOp, ho, resolve, Deferred.ofValue, hv2, invoke, he]
      · refine Al2.append (cmps_ok h1 fun x hx' => hx x (by rw [ho]; simp [Op.operands, Call.operands]; exact .inr (by simpa using hx'))) ?_
        exact caps_ok hv1
    · cases h
  · cases h

theorem not_defer_call {o : Oper} {x : FuncId × List Cmp} (h : callOf σ o.op = some x) : ∀ c, o.op ≠ .defer c := fun c hc => by rw [hc] at h; simp [callOf] at h
theorem not_defer_aop {o : Oper} {x : AV × Heap} (h : aop te σ H o.op = some x) : ∀ c, o.op ≠ .defer c := fun c hc => by rw [hc] at h; simp [aop] at h

theorem oper_hx {o : Oper} (hf : Fits B N ds ρ σ H a w) (hok : operOk N o = true) : ∀ x ∈ o.op.operands.toList, CA ρ (ev σ x) (a.eval x) := fun x hx => hf.ev (by
  have := hok
  simp only [operOk, Bool.and_eq_true, List.all_eq_true] at this
  exact this.1 x hx)

theorem oper_wp_call {ro : Option Nat} {n : Nat} {o : Oper} (hr : Rel B ρ H w) (hx : ∀ x ∈ o.op.operands.toList, CA ρ (ev σ x) (a.eval x)) {next : Act → World → Prop} {Q : Exit → Act → World → Prop}
    {f : FuncId} {args : List Cmp} (hc : callOf σ o.op = some (f, args)) {R : AV → Heap → Prop} (hac : ACallsR P f args H R)
    (hk : ∀ rv w' ρ' r H', R r H' → CA ρ' r rv → Rel B ρ' H' w' → Step ρ H w ρ' H' w' → next (a.put o.dst rv) w') : o.wpIn (FW ro) n P a w next Q := by
  unfold Oper.wpIn
  refine ⟨fun _ _ => trivial, ?_⟩
  obtain ⟨cargs, h1, h2⟩ := call_run hc hx hac.1 w
  rw [Oper.semAt_eq _ _ _ (not_defer_call hc), h1, Oper.uponIn_enter]
  refine ⟨fun h => by simp [FW, Fence.wide] at h, ?_⟩
  refine callsIn_FW ((hac.2 B ρ w cargs hr h2).mono ?_)
  rintro e w' ⟨rv, ρ', r, H', rfl, h3, h4, h5, h6⟩
  exact hk rv w' ρ' r H' h6 h3 h4 h5

theorem oper_wp_op (hte : TEok P te) {ro : Option Nat} {n : Nat} {o : Oper} (hr : Rel B ρ H w) (hx : ∀ x ∈ o.op.operands.toList, CA ρ (ev σ x) (a.eval x)) {next : Act → World → Prop} {Q : Exit → Act → World → Prop} {r : AV} {H' : Heap}
    (hop : aop te σ H o.op = some (r, H'))
    (hk : ∀ rv w' ρ', CA ρ' r rv → Rel B ρ' H' w' → Step ρ H w ρ' H' w' → next (a.put o.dst rv) w') : o.wpIn (FW ro) n P a w next Q := by
  unfold Oper.wpIn
  refine ⟨fun _ _ => trivial, ?_⟩
  obtain ⟨nx, w', ρ', h1, h2, h3, h4⟩ := aop_ok hte hr hx hop
  rw [Oper.semAt_eq _ _ _ (not_defer_aop hop), h1]
  rcases h2 with ⟨rv, rfl, h5⟩ | ⟨rfl, rfl⟩
  · rw [Oper.uponIn_value]; exact hk rv w' ρ' h5 h3 h4
  · rw [Oper.uponIn_skip]; exact hk undef w' ρ' trivial h3 h4

theorem Fits.put {ρ' : Env} {H' : Heap} {w' : World} (hf : Fits B N ds ρ σ H a w) (hs : Step ρ H w ρ' H' w') (hr : Rel B ρ' H' w') {d : Option Tmp} {r : AV} {rv : Value} (hv : CA ρ' r rv) : Fits B N ds ρ' (Upd σ d r) H' (a.put d rv) w' :=
  ⟨hr, (hf.2.1.mono hs.le).put hv, by rw [Act.put_size]; exact hf.2.2.1, by cases d <;> exact hf.2.2.2⟩

/-- the operations of a region, in the order of the text -/
theorem vops_ok (hte : TEok P te) {ro : Option Nat} {n : Nat} {ops : Array Oper} (hall : ops.toList.all (operOk N) = true) {K : Slots → Heap → Prop} {Q : Exit → Act → World → Prop} :
    ∀ (l : List Oper) (k : Nat), ops.toList.drop k = l → ∀ (σ : Slots) (H : Heap) (ρ : Env) (a : Act) (w : World), Fits B N ds ρ σ H a w → VOps P te ops l σ H K →
      (∀ σ' H' ρ' a' w', Fits B N ds ρ' σ' H' a' w' → Step ρ H w ρ' H' w' → K σ' H' → Q .normal a' w') → wpOpsIn (FW ro) n P ops Q ((List.range l.length).map (· + k)) a w
  | [], k, _, σ, H, ρ, a, w, hf, hv, hq => by
    exact hq σ H ρ a w hf (Step.refl _ _ _) hv
  | o :: l, k, hd, σ, H, ρ, a, w, hf, hv, hq => by
    have hk : ops[k]? = some o := by
      have : (ops.toList.drop k)[0]? = some o := by rw [hd]; rfl
      simpa using this
    have hd' : ops.toList.drop (k + 1) = l := by
      have : (ops.toList.drop k).drop 1 = l := by rw [hd]; rfl
      rwa [List.drop_drop] at this
    have hok : operOk N o = true := by
      have := List.all_eq_true.1 hall o (by
        have := Array.mem_of_getElem? hk
        exact Array.mem_toList_iff.2 this)
      exact this
    have hdst : ∀ (j : Nat) (d : Nat), (ops[j]?).bind (·.dst) = some d → d < N := by
      intro j d hj
      cases hoj : ops[j]? with
      | none => rw [hoj] at hj; cases hj
      | some o' =>
        rw [hoj] at hj
        have := List.all_eq_true.1 hall o' (Array.mem_toList_iff.2 (Array.mem_of_getElem? hoj))
        simp only [operOk, Bool.and_eq_true] at this
        simp only [Option.bind_some] at hj
        have h2 := this.2
        rw [hj] at h2
        simpa [dstOk] using h2
    have hw : ∀ b, wantedA ops σ o = some b → Region.wanted o (yielded ops a.tmps) = b := fun b hb => wanted_ok hb fun d hdd => by
      have := hdst _ d hdd
      refine ⟨by rw [hf.2.2.1]; exact this, hf.2.1 d (by rw [hf.2.2.1]; exact this)⟩
    have hlist : (List.range (o :: l).length).map (· + k) = k :: (List.range l.length).map (· + (k + 1)) := by
      simp only [List.length_cons, List.range_succ_eq_map, List.map_cons, Nat.zero_add, List.map_map]
      congr 1
      apply List.map_congr_left
      intro x _
      simp only [Function.comp_apply]; omega
    rw [hlist]
    simp only [VOps] at hv
    simp only [wpOpsIn, hk]
    split at hv
    · rename_i hwt
      rw [hw _ hwt]
      simp only [if_true]
      split at hv
      · rename_i f args hc
        obtain ⟨R, hac, hrest⟩ := hv
        exact oper_wp_call hf.1 (oper_hx hf hok) hc hac fun rv w' ρ' r H' hR h1 h2 h3 =>
          vops_ok hte hall l (k + 1) hd' _ _ _ _ _ (hf.put h3 h2 h1) (hrest r H' hR) fun σ' H'' ρ'' a' w'' h4 h5 h6 => hq σ' H'' ρ'' a' w'' h4 (h3.trans h5) h6
      · rename_i hc
        split at hv
        · rename_i r H' hop
          exact oper_wp_op hte hf.1 (oper_hx hf hok) hop fun rv w' ρ' h1 h2 h3 =>
            vops_ok hte hall l (k + 1) hd' _ _ _ _ _ (hf.put h3 h2 h1) hv fun σ' H'' ρ'' a' w'' h4 h5 h6 => hq σ' H'' ρ'' a' w'' h4 (h3.trans h5) h6
        · exact hv.elim
    · rename_i hwt
      rw [hw _ hwt]
      simp only [Bool.false_eq_true, if_false]
      refine ⟨fun _ _ => trivial, ?_⟩
      exact vops_ok hte hall l (k + 1) hd' _ _ _ _ _ (hf.put (Step.refl _ _ _) hf.1 (r := .tup []) ⟨[], trivial, rfl⟩) hv hq
    · exact hv.elim
end

end Go.Abs
/-
  A region that draws its order.
-/
namespace Go.Abs
set_option linter.unusedVariables false
set_option linter.unusedSimpArgs false
open Go.RowKit

/-- 0: looks at slots alone; 1: reads, or makes memory; 2: writes; 3: not taken here. -/
def opKind : Op → Nat
  | .move _ | .assign _ | .pick _ _ _ | .unOp _ _ _ | .binOp _ _ _ _ _ | .build _ _ | .fieldAddr _ _ _ | .indexAddr _ _ _ | .nilCheck _ | .convert _ _ _ | .makeFunc _ _ _ | .extract _ _ => 0
  | .call { callee := .builtin .len, .. } | .call { callee := .builtin .cap, .. } | .call { callee := .builtin .max, .. } | .call { callee := .builtin .min, .. } => 0
  | .load _ _ | .alloc _ | .box _ _ | .buildSlice _ _ _ => 1
  | .call { callee := .value _, .. } => 1
  | .store _ _ _ => 2
  | _ => 3

/-- j waits for i, by an edge of its own -/
def waitsFor (ops : Array Oper) (j i : Nat) : Bool :=
  match ops[j]? with
  | some o => o.after.toList.any fun e => Region.binds .any e && e.on == i
  | none => false

def looks (ops : Array Oper) (o : Oper) : List Nat :=
  (o.op.operands.toList.filterMap fun | .tmp t => some t | _ => none) ++
  (match o.guard with
   | some (j, _) => ((ops[j]?).bind (·.dst)).toList
   | none => [])

def kindAt (ops : Array Oper) (i : Nat) : Nat := ((ops[i]?).map fun o => opKind o.op).getD 0

def drawOk (ops : Array Oper) : Bool :=
  (List.range ops.size).all fun j =>
    match ops[j]? with
    | none => true
    | some oj =>
      (opKind oj.op != 3) &&
      oj.after.toList.all (fun e => !Region.binds .any e || decide (e.on < j)) &&
      (List.range j).all fun i =>
        match ops[i]? with
        | none => true
        | some oi =>
          -- no slot written twice
          (match oi.dst, oj.dst with
           | some x, some y => x != y
           | _, _ => true) &&
          -- what one writes and the other looks at
          (match oi.dst with
           | some x => !(looks ops oj).contains x || waitsFor ops j i
           | none => true) &&
          (match oj.dst with
           | some y => !(looks ops oi).contains y || waitsFor ops j i
           | none => true) &&
          -- writers
          (if opKind oi.op = 2 then (opKind oj.op != 1) && (opKind oj.op != 2 || waitsFor ops j i) else true) &&
          (if opKind oi.op = 1 && opKind oj.op = 2 then waitsFor ops j i else true)

/-- more memory, what there was as it was; new cells hold plain values -/
def HExtR (H H' : Heap) : Prop :=
  H.n ≤ H'.n ∧ (∀ b, b < H.n → H'.m b = H.m b) ∧ ∀ b x, H.n ≤ b → b < H'.n → H'.m b = some x → ∀ sv ∈ x.cells, pers sv = true

def VD (P : Program) (te : Nat → Option TI) (all : Array Oper) : List Oper → Slots → Heap → (Slots → Heap → Prop) → Prop
  | [], σ, H, K => K σ H
  | o :: rest, σ, H, K =>
    match wantedA all σ o with
    | some true =>
      match callOf σ o.op with
      | some (f, args) => ∃ r H', ACalls P f args H r H' ∧ HExtR H H' ∧ VD P te all rest (Upd σ o.dst r) H' K
      | none =>
        match aop te σ H o.op with
        | some (r, H') => (match opKind o.op with | 0 => H' = H | 1 => HExtR H H' | _ => True) ∧ VD P te all rest (Upd σ o.dst r) H' K
        | none => False
    | some false => VD P te all rest (Upd σ o.dst (.tup [])) H K
    | none => False

theorem HExtR.refl (H : Heap) : HExtR H H := ⟨Nat.le_refl _, fun _ _ => rfl, fun b _ h1 h2 => absurd h2 (Nat.not_lt.2 h1)⟩
theorem HExtR.trans {a b c : Heap} (h : HExtR a b) (k : HExtR b c) : HExtR a c := by
  refine ⟨Nat.le_trans h.1 k.1, fun x hx => (k.2.1 x (Nat.lt_of_lt_of_le hx h.1)).trans (h.2.1 x hx), fun x y h1 h2 h3 => ?_⟩
  rcases Nat.lt_or_ge x b.n with hlt | hge
  · exact h.2.2 x y h1 hlt (by rw [← k.2.1 x hlt]; exact h3)
  · exact k.2.2 x y hge h2 h3

def Rst (ρ : Env) (n : Nat) : Env := { ρ with loc := fun b => if b < n then ρ b else .absent }
@[simp] theorem Rst_mem (ρ : Env) (n : Nat) : (Rst ρ n).mem = ρ.mem := rfl
theorem Rst.le {ρ : Env} {n : Nat} : Le (Rst ρ n) ρ := ⟨fun b => by
  unfold Rst
  by_cases h : b < n
  · simp [h]
  · simp [h], fun _ _ _ h => h⟩
theorem Rst.mono {ρ : Env} {n m : Nat} (h : n ≤ m) : Le (Rst ρ n) (Rst ρ m) := ⟨fun b => by
  unfold Rst
  by_cases h1 : b < n
  · have : b < m := by omega
    simp [h1, this]
  · simp [h1], fun _ _ _ h => h⟩
theorem Rst.le2 {ρ ρ' : Env} {n : Nat} (h : Le ρ ρ') : Le (Rst ρ n) (Rst ρ' n) := ⟨fun b => by
  unfold Rst
  by_cases h1 : b < n
  · simp only [h1, if_true]; exact h b
  · simp [h1], h.mem⟩
theorem Rst.lt {ρ : Env} {n b : Nat} (h : b < n) : Rst ρ n b = ρ b := by simp [Rst, h]
theorem Rst.ge {ρ : Env} {n b : Nat} (h : n ≤ b) : Rst ρ n b = .absent := by simp [Rst, Nat.not_lt.2 h]

theorem CS_agr {ρ ρ1 ρ2 : Env} {x : SV} {v v0 : Value} (h0 : CS ρ x v0) (ha : ∀ b, ρ b ≠ .absent → ρ2 b = ρ1 b) (hmm : ∀ cb j v, ρ1.mem cb j = some v → ρ2.mem cb j = some v) (h : CS ρ1 x v) : CS ρ2 x v := by
  have caps : ∀ {caps : List (Nat × Nat)} {vs0 vs : List Value}, Al2 (fun p v => PC ρ p.1 p.2 v) caps vs0 → Al2 (fun p v => PC ρ1 p.1 p.2 v) caps vs → Al2 (fun p v => PC ρ2 p.1 p.2 v) caps vs := by
    intro caps
    induction caps with
    | nil => intro vs0 vs _ h2; cases vs with
      | nil => trivial
      | cons => exact h2.elim
    | cons p caps ih =>
      intro vs0 vs h1 h2
      cases vs0 with
      | nil => exact h1.elim
      | cons u0 vs0 =>
        cases vs with
        | nil => exact h2.elim
        | cons u vs =>
          have hb : ρ p.1 ≠ .absent := fun e => by have := h1.1; simp [PC, e] at this
          refine ⟨?_, ih h1.2 h2.2⟩
          have := h2.1
          simp only [PC, ha p.1 hb]; exact this
  cases x with
  | raw u => exact pers_mono hmm rfl h
  | ptr b off =>
    have hb : ρ b ≠ .absent := fun e => by simp [CS, PC, e] at h0
    simp only [CS, PC, ha b hb] at h ⊢; exact h
  | sl b off len gr =>
    have hb : ρ b ≠ .absent := fun e => by simp [CS, LC, e] at h0
    simp only [CS, LC, ha b hb] at h ⊢; exact h
  | fn f cs =>
    simp only [CS] at h0 h ⊢
    obtain ⟨vs0, h1, _⟩ := h0
    obtain ⟨vs, h2, h3⟩ := h
    exact ⟨vs, caps h1 h2, h3⟩
  | vs n cells => exact pers_mono hmm rfl h
  | vp cells => exact pers_mono hmm rfl h
  | ve => exact pers_mono hmm rfl h

theorem Rel.lt' {B : Nat} {ρ : Env} {H : Heap} {w : World} (h : Rel B ρ H w) {b : Nat} (hb : ρ b ≠ .absent) : b < H.n := by
  rcases Nat.lt_or_ge b H.n with h1 | h1
  · exact h1
  · exact absurd (h.fresh b h1) hb

abbrev Heap.wn (H : Heap) (n : Nat) : Heap := { H with n := n }

/-! ### One operation, seen from the whole region's heap -/
section
variable {B : Nat} {ρ0 ρ ρ' : Env} {H0 Hi Hi1 Hp : Heap} {w0 w w' : World}

/-- what it was comes from the first environment, or is new -/
theorem old_at (hs : Step ρ0 H0 w0 ρ (Hp.wn H0.n) w) {b cb co cc : Nat} (hlt : b < H0.n) (hb : ρ b = .at_ cb co cc) : ρ0 b = .at_ cb co cc := by
  rcases hs.le b with h | h | h
  · rw [hs.abs b hlt h] at hb; cases hb
  · rw [← h]; exact hb
  · rw [h] at hb; cases hb

theorem own_sub (x2 : HExtR Hi Hp) {k n : Nat} (h : Own (Rst ρ Hi.n) Hi k) : Own ρ (Hp.wn n) k := by
  obtain ⟨b, co, cc, x, h1, h2, h3⟩ := h
  have l1 : b < Hi.n := by
    rcases Nat.lt_or_ge b Hi.n with h | h
    · exact h
    · rw [Rst.ge h] at h1; cases h1
  rw [Rst.lt l1] at h1
  exact ⟨b, co, cc, x, h1, by show Hp.m b = _; rw [x2.2.1 b l1]; exact h2, h3⟩

theorem frame1 (h0 : Rel B ρ0 H0 w0) (x0 : HExtR H0 Hi) (x2 : HExtR Hi Hp) (hs : Step ρ0 H0 w0 ρ (Hp.wn H0.n) w) (hr : Rel B ρ Hp w) : Rel B (Rst ρ Hi.n) Hi w := by
  refine ⟨⟨hr.hB, fun b hb => Rst.ge hb, ?_, ?_, ?_⟩, fun cb j v hv => ⟨(hr.imm cb j v hv).1, fun ho => (hr.imm cb j v hv).2 (own_sub x2 (n := 0) ho)⟩⟩
  · intro b x hb
    rcases Nat.lt_or_ge b Hi.n with hlt | hge
    · rw [Rst.lt hlt]; exact hr.live b x (by rw [x2.2.1 b hlt]; exact hb)
    · rw [Rst.ge hge]; exact fun h => by cases h
  · intro b cb co cc x hb hm
    rcases Nat.lt_or_ge b Hi.n with hlt | hge
    · rw [Rst.lt hlt] at hb
      obtain ⟨C, T, fz, k1, k2, k3, k4⟩ := hr.blk b cb co cc x hb (by rw [x2.2.1 b hlt]; exact hm)
      refine ⟨C, T, fz, k1, fun j sv hj => ?_, k3, k4⟩
      obtain ⟨v, k5, k6⟩ := k2 j sv hj
      refine ⟨v, k5, ?_⟩
      rcases Nat.lt_or_ge b H0.n with h1 | h1
      · obtain ⟨C0, T0, fz0, _, j2, _⟩ := h0.blk b cb co cc x (old_at hs h1 hb) (by rw [← x0.2.1 b h1]; exact hm)
        obtain ⟨v0, _, j6⟩ := j2 j sv hj
        exact CS_agr j6 (fun b' hb' => Rst.lt (Nat.lt_of_lt_of_le (h0.lt' hb') x0.1)) (fun _ _ _ h => h) k6
      · exact pers_mono (ρ := ρ) (ρ' := Rst ρ Hi.n) (fun _ _ _ h => h) (x0.2.2 b x h1 hlt hm sv (List.mem_of_getElem? hj)) k6
    · rw [Rst.ge hge] at hb; cases hb
  · intro b b' cb co cc co' cc' x x' hne g1 g2 g3 g4
    have l1 : b < Hi.n := by
      rcases Nat.lt_or_ge b Hi.n with h | h
      · exact h
      · rw [Rst.ge h] at g1; cases g1
    have l2 : b' < Hi.n := by
      rcases Nat.lt_or_ge b' Hi.n with h | h
      · exact h
      · rw [Rst.ge h] at g2; cases g2
    rw [Rst.lt l1] at g1; rw [Rst.lt l2] at g2
    exact hr.sep b b' cb co cc co' cc' x x' hne g1 g2 (by rw [x2.2.1 b l1]; exact g3) (by rw [x2.2.1 b' l2]; exact g4)

theorem frame1' (x0 : HExtR H0 Hi) (x1 : HExtR Hi Hi1) (x2 : HExtR Hi1 Hp) (hr : Rel B ρ Hp w) (hn : ∀ b, Hi.n ≤ b → b < Hi1.n → ρ b = .absent)
    (hr' : Rel B ρ' Hi1 w') (hs' : Step (Rst ρ Hi.n) Hi w ρ' Hi1 w') :
    ∃ ρ2, Rel B ρ2 Hp w' ∧ Step ρ (Hp.wn H0.n) w ρ2 (Hp.wn H0.n) w' ∧ Le ρ' (Rst ρ2 Hi1.n) ∧ (∀ b, Hi1.n ≤ b → ρ2 b = ρ b) ∧ (∀ b, b < Hi.n → ρ b = .absent → ρ2 b = .absent) := by
  let ρ2 : Env := { loc := fun b => if b < Hi1.n then ρ' b else ρ b, mem := ρ'.mem }
  have e1 : ∀ b, b < Hi1.n → ρ2 b = ρ' b := fun b h => by simp [ρ2, h]
  have e2 : ∀ b, Hi1.n ≤ b → ρ2 b = ρ b := fun b h => by simp [ρ2, Nat.not_lt.2 h]
  have x12 := x1.trans x2
  have x02 := x0.trans x12
  have hle : Le ρ' ρ2 := ⟨fun b => by
    rcases Nat.lt_or_ge b Hi1.n with h | h
    · exact .inr (.inl (e1 b h))
    · exact .inl (hr'.fresh b h), fun _ _ _ h => h⟩
  have hle1 : Le ρ ρ2 := ⟨fun b => by
    rcases Nat.lt_or_ge b Hi1.n with h | h
    · rw [e1 b h]
      rcases Nat.lt_or_ge b Hi.n with h' | h'
      · have := hs'.le b; rwa [Rst.lt h'] at this
      · exact .inl (hn b h' h)
    · exact .inr (.inl (e2 b h)), fun cb j v hv => hs'.le.mem cb j v hv⟩
  have habs : ∀ b, b < Hi.n → ρ b = .absent → ρ2 b = .absent := fun b hb ha => by
    rw [e1 b (Nat.lt_of_lt_of_le hb x1.1)]
    exact hs'.abs b hb (by rw [Rst.lt hb]; exact ha)
  -- no two of them share a concrete block that is written
  have hap : ∀ b b' cb co cc co' cc' x', b < Hi1.n → Hi1.n ≤ b' → ρ' b = .at_ cb co cc → ρ b' = .at_ cb co' cc' → Hp.m b' = some x' → ∀ x, Hp.m b = some x → x.wr = false ∧ x'.wr = false := by
    intro b b' cb co cc co' cc' x' hb hb' g1 g2 g4 x g3
    obtain ⟨C, T, fz, k1, _⟩ := hr.blk b' cb co' cc' x' g2 g4
    have hcb : cb < w.heap.size := (Array.getElem?_eq_some_iff.1 k1).1
    by_cases ha : Rst ρ Hi.n b = .absent
    · rcases hs'.new b cb co cc ha g1 with h | h
      · obtain ⟨b2, co2, cc2, y, h1, h2, h3⟩ := own_sub x12 (n := 0) h
        have hb2 : b2 ≠ b' := fun e => by
          obtain ⟨b3, _, _, y3, j1, j2, j3⟩ := h
          subst e
          have l3 : b3 < Hi.n := by
            rcases Nat.lt_or_ge b3 Hi.n with h | h
            · exact h
            · rw [Rst.ge h] at j1; cases j1
          rw [Rst.lt l3] at j1
          have := hr.sep b3 b2 cb _ _ _ _ y3 x' (fun e => by subst e; have := x1.1; omega) j1 g2 (by rw [x12.2.1 b3 l3]; exact j2) g4
          rw [j3] at this; exact absurd this.1 (by simp)
        have := hr.sep b2 b' cb _ _ _ _ y x' hb2 h1 g2 h2 g4
        rw [h3] at this; exact absurd this.1 (by simp)
      · omega
    · have hl : b < Hi.n := by
        rcases Nat.lt_or_ge b Hi.n with h | h
        · exact h
        · exact absurd (Rst.ge h) ha
      rcases hs'.le b with h | h | h
      · exact absurd h ha
      · rw [h, Rst.lt hl] at g1
        exact hr.sep b b' cb _ _ _ _ x x' (by omega) g1 g2 g3 g4
      · rw [h] at g1; cases g1
  have memn : ∀ cb j v, ρ'.mem cb j = some v → ρ.mem cb j = some v ∨ Own ρ Hp cb ∨ w.heap.size ≤ cb := fun cb j v hv => by
    rcases hs'.memn cb j v hv with h | h | h
    · exact .inl h
    · exact .inr (.inl (own_sub x12 (n := 0) h))
    · exact .inr (.inr h)
  have imm2 : ∀ cb j v, ρ'.mem cb j = some v → w'.cell? ⟨cb, j, none⟩ = some v ∧ ¬ Own ρ2 Hp cb := fun cb j v hv => by
    refine ⟨(hr'.imm cb j v hv).1, ?_⟩
    rintro ⟨b, co, cc, x, g1, g2, g3⟩
    rcases Nat.lt_or_ge b Hi1.n with h | h
    · rw [e1 b h] at g1
      exact (hr'.imm cb j v hv).2 ⟨b, co, cc, x, g1, by rw [← x2.2.1 b h]; exact g2, g3⟩
    · rw [e2 b h] at g1
      rcases hs'.memn cb j v hv with h1 | h1 | h1
      · exact (hr.imm cb j v h1).2 ⟨b, co, cc, x, g1, g2, g3⟩
      · obtain ⟨b3, _, _, y3, j1, j2, j3⟩ := h1
        have l3 : b3 < Hi.n := by
          rcases Nat.lt_or_ge b3 Hi.n with h | h
          · exact h
          · rw [Rst.ge h] at j1; cases j1
        rw [Rst.lt l3] at j1
        have := hr.sep b3 b cb _ _ _ _ y3 x (fun e => by subst e; have := x1.1; omega) j1 g1 (by rw [x12.2.1 b3 l3]; exact j2) g2
        rw [j3] at this; exact absurd this.1 (by simp)
      · obtain ⟨C, T, fz, k1, _⟩ := hr.blk b cb co cc x g1 g2
        have := (Array.getElem?_eq_some_iff.1 k1).1
        omega
  refine ⟨ρ2, ⟨⟨hr'.hB, ?_, ?_, ?_, ?_⟩, imm2⟩, ⟨hs'.os, hs'.tape, hs'.output, hs'.size, ?_, ?_, hle1, ?_, Nat.le_refl _, fun b hb ha => habs b (Nat.lt_of_lt_of_le hb x0.1) ha, memn⟩, ?_, e2, habs⟩
  · intro b hb
    rw [e2 b (Nat.le_trans x2.1 hb)]; exact hr.fresh b hb
  · intro b x hb
    rcases Nat.lt_or_ge b Hi1.n with h | h
    · rw [e1 b h]; exact hr'.live b x (by rw [← x2.2.1 b h]; exact hb)
    · rw [e2 b h]; exact hr.live b x hb
  · intro b cb co cc x hb hm
    rcases Nat.lt_or_ge b Hi1.n with h | h
    · rw [e1 b h] at hb
      exact (hr'.blk b cb co cc x hb (by rw [← x2.2.1 b h]; exact hm)).mono hle rfl
    · rw [e2 b h] at hb
      obtain ⟨C, T, fz, k1, k2, k3, k4⟩ := hr.blk b cb co cc x hb hm
      have hlt : cb < w.heap.size := (Array.getElem?_eq_some_iff.1 k1).1
      have hbp : b < Hp.n := hr.lt' (by rw [hb]; exact fun e => by cases e)
      have hraw := x2.2.2 b x h hbp hm
      by_cases ho : Own (Rst ρ Hi.n) Hi cb
      · exfalso
        obtain ⟨b3, _, _, y3, j1, j2, j3⟩ := ho
        have l3 : b3 < Hi.n := by
          rcases Nat.lt_or_ge b3 Hi.n with h | h
          · exact h
          · rw [Rst.ge h] at j1; cases j1
        rw [Rst.lt l3] at j1
        have := hr.sep b3 b cb _ _ _ _ y3 x (fun e => by subst e; have := x1.1; omega) j1 hb (by rw [x12.2.1 b3 l3]; exact j2) hm
        rw [j3] at this; exact absurd this.1 (by simp)
      · refine ⟨C, T, fz, (hs'.keep cb hlt ho).trans k1, fun j sv hj => ?_, k3, k4⟩
        obtain ⟨v, k5, k6⟩ := k2 j sv hj
        exact ⟨v, k5, pers_mono hle1.mem (hraw sv (List.mem_of_getElem? hj)) k6⟩
  · intro b b' cb co cc co' cc' x x' hne g1 g2 g3 g4
    rcases Nat.lt_or_ge b Hi1.n with h | h <;> rcases Nat.lt_or_ge b' Hi1.n with h' | h'
    · rw [e1 b h] at g1; rw [e1 b' h'] at g2
      exact hr'.sep b b' cb co cc co' cc' x x' hne g1 g2 (by rw [← x2.2.1 b h]; exact g3) (by rw [← x2.2.1 b' h']; exact g4)
    · rw [e1 b h] at g1; rw [e2 b' h'] at g2
      exact hap b b' cb co cc co' cc' x' h h' g1 g2 g4 x g3
    · rw [e2 b h] at g1; rw [e1 b' h'] at g2
      exact (hap b' b cb co' cc' co cc x h' h g2 g1 g3 x' g4).symm
    · rw [e2 b h] at g1; rw [e2 b' h'] at g2
      exact hr.sep b b' cb co cc co' cc' x x' hne g1 g2 g3 g4
  · intro k hk ho
    exact hs'.keep k hk fun h => ho (own_sub x12 h)
  · rintro k ⟨b, co, cc, x, g1, g2, g3⟩
    rcases Nat.lt_or_ge b Hi1.n with h | h
    · rw [e1 b h] at g1
      rcases hs'.own k ⟨b, co, cc, x, g1, by rw [← x2.2.1 b h]; exact g2, g3⟩ with h1 | h1
      · exact .inl (own_sub x12 h1)
      · exact .inr h1
    · rw [e2 b h] at g1
      exact .inl ⟨b, co, cc, x, g1, g2, g3⟩
  · intro b cb co cc ha g1
    rcases Nat.lt_or_ge b Hi1.n with h | h
    · rw [e1 b h] at g1
      have : Rst ρ Hi.n b = .absent := by
        rcases Nat.lt_or_ge b Hi.n with h' | h'
        · rw [Rst.lt h']; exact ha
        · exact Rst.ge h'
      rcases hs'.new b cb co cc this g1 with h1 | h1
      · exact .inl (own_sub x12 h1)
      · exact .inr h1
    · rw [e2 b h, ha] at g1; cases g1
  · refine ⟨fun b => ?_, fun _ _ _ h => h⟩
    rcases Nat.lt_or_ge b Hi1.n with h | h
    · rw [Rst.lt h, e1 b h]; exact .inr (.inl rfl)
    · exact .inl (hr'.fresh b h)

/-- the heap of which only the living is known -/
def Heap.bare (H : Heap) : Heap := { m := fun b => (H.m b).map fun _ => ⟨[], 0, false⟩, n := H.n }

theorem bare_live {H : Heap} {b : Nat} {x : Blk} (h : H.bare.m b = some x) : x = ⟨[], 0, false⟩ ∧ ∃ y, H.m b = some y := by
  simp only [Heap.bare, Option.map_eq_some_iff] at h
  obtain ⟨y, h1, h2⟩ := h
  exact ⟨h2.symm, y, h1⟩

theorem bare_own {k : Nat} (h : Own ρ Hi.bare k) : False := by
  obtain ⟨b, co, cc, x, h1, h2, h3⟩ := h
  obtain ⟨rfl, _⟩ := bare_live h2
  simp at h3

theorem frame0 (hd : ∀ b, b < Hi.n → (∃ x, Hi.m b = some x) → ∃ x, Hp.m b = some x) (hr : Rel B ρ Hp w) : Rel B (Rst ρ Hi.n) Hi.bare w := by
  have lt : ∀ {b cb co cc}, Rst ρ Hi.n b = .at_ cb co cc → b < Hi.n ∧ ρ b = .at_ cb co cc := fun {b cb co cc} h => by
    rcases Nat.lt_or_ge b Hi.n with h' | h'
    · rw [Rst.lt h'] at h; exact ⟨h', h⟩
    · rw [Rst.ge h'] at h; cases h
  refine ⟨⟨hr.hB, fun b hb => Rst.ge hb, ?_, ?_, ?_⟩, fun cb j v hv => ⟨(hr.imm cb j v hv).1, bare_own⟩⟩
  · intro b x hb
    rcases Nat.lt_or_ge b Hi.n with h' | h'
    · rw [Rst.lt h']
      obtain ⟨y, hy⟩ := hd b h' (bare_live hb).2
      exact hr.live b y hy
    · rw [Rst.ge h']; exact fun h => by cases h
  · intro b cb co cc x hb hm
    obtain ⟨rfl, hy⟩ := bare_live hm
    obtain ⟨h1, h2⟩ := lt hb
    obtain ⟨y, hy⟩ := hd b h1 hy
    obtain ⟨C, T, fz, k1, _⟩ := hr.blk b cb co cc y h2 hy
    exact ⟨C, T, fz, k1, fun j sv hj => by simp at hj, fun h => by simp at h, fun h => absurd rfl h⟩
  · intro b b' cb co cc co' cc' x x' hne g1 g2 g3 g4
    obtain ⟨rfl, _⟩ := bare_live g3
    obtain ⟨rfl, _⟩ := bare_live g4
    exact ⟨rfl, rfl⟩

theorem frame0' (hn : H0.n ≤ Hi.n) (hnp : Hi.n ≤ Hp.n) (hd : ∀ b, b < Hi.n → (∃ x, Hp.m b = some x) → ∃ x, Hi.m b = some x) (hr : Rel B ρ Hp w)
    (hr' : Rel B ρ' Hi.bare w') (hs' : Step (Rst ρ Hi.n) Hi.bare w ρ' Hi.bare w') :
    ∃ ρ2, Rel B ρ2 Hp w' ∧ Step ρ (Hp.wn H0.n) w ρ2 (Hp.wn H0.n) w' ∧ Le ρ' (Rst ρ2 Hi.n) ∧ (∀ b, Hi.n ≤ b → ρ2 b = ρ b) ∧ (∀ b, b < Hi.n → ρ b = .absent → ρ2 b = .absent) := by
  let ρ2 : Env := { loc := fun b => if b < Hi.n then ρ' b else ρ b, mem := ρ'.mem }
  have e1 : ∀ b, b < Hi.n → ρ2 b = ρ' b := fun b h => by simp [ρ2, h]
  have e2 : ∀ b, Hi.n ≤ b → ρ2 b = ρ b := fun b h => by simp [ρ2, Nat.not_lt.2 h]
  have habs : ∀ b, b < Hi.n → ρ b = .absent → ρ2 b = .absent := fun b hb ha => by
    rw [e1 b hb]
    exact hs'.abs b hb (by rw [Rst.lt hb]; exact ha)
  have hle1 : Le ρ ρ2 := ⟨fun b => by
    rcases Nat.lt_or_ge b Hi.n with h | h
    · rw [e1 b h]
      have := hs'.le b; rwa [Rst.lt h] at this
    · exact .inr (.inl (e2 b h)), fun cb j v hv => hs'.le.mem cb j v hv⟩
  have back : ∀ {b cb co cc}, ρ2 b = .at_ cb co cc → ρ b = .at_ cb co cc := fun {b cb co cc} h => by
    rcases hle1 b with h1 | h1 | h1
    · rcases Nat.lt_or_ge b Hi.n with h2 | h2
      · rw [habs b h2 h1] at h; cases h
      · rw [e2 b h2] at h; exact h
    · rw [h1] at h; exact h
    · rw [h1] at h; cases h
  have keep : ∀ k, k < w.heap.size → w'.heap[k]? = w.heap[k]? := fun k hk => hs'.keep k hk fun h => bare_own h
  have memn : ∀ cb j v, ρ'.mem cb j = some v → ρ.mem cb j = some v ∨ Own ρ Hp cb ∨ w.heap.size ≤ cb := fun cb j v hv => by
    rcases hs'.memn cb j v hv with h | h | h
    · exact .inl h
    · exact (bare_own h).elim
    · exact .inr (.inr h)
  have imm2 : ∀ cb j v, ρ'.mem cb j = some v → w'.cell? ⟨cb, j, none⟩ = some v ∧ ¬ Own ρ2 Hp cb := fun cb j v hv => by
    refine ⟨(hr'.imm cb j v hv).1, ?_⟩
    rintro ⟨b, co, cc, x, g1, g2, g3⟩
    rcases hs'.memn cb j v hv with h | h | h
    · exact (hr.imm cb j v h).2 ⟨b, co, cc, x, back g1, g2, g3⟩
    · exact bare_own h
    · obtain ⟨C, T, fz, k1, _⟩ := hr.blk b cb co cc x (back g1) g2
      have := (Array.getElem?_eq_some_iff.1 k1).1
      omega
  refine ⟨ρ2, ⟨⟨hr'.hB, ?_, ?_, ?_, ?_⟩, imm2⟩, ⟨hs'.os, hs'.tape, hs'.output, hs'.size, fun k hk _ => keep k hk, ?_, hle1, ?_, Nat.le_refl _, fun b hb ha => habs b (Nat.lt_of_lt_of_le hb hn) ha, memn⟩, ?_, e2, habs⟩
  · intro b hb
    rw [e2 b (Nat.le_trans hnp hb)]; exact hr.fresh b hb
  · intro b x hb
    rcases Nat.lt_or_ge b Hi.n with h | h
    · rw [e1 b h]
      obtain ⟨y, hy⟩ := hd b h ⟨x, hb⟩
      exact hr'.live b ⟨[], 0, false⟩ (by simp [Heap.bare, hy])
    · rw [e2 b h]; exact hr.live b x hb
  · intro b cb co cc x hb hm
    have h2 := hr.blk b cb co cc x (back hb) hm
    have h3 : cb < w.heap.size := by
      obtain ⟨C, T, fz, k1, _⟩ := h2
      exact (Array.getElem?_eq_some_iff.1 k1).1
    exact h2.mono hle1 (keep cb h3)
  · intro b b' cb co cc co' cc' x x' hne g1 g2 g3 g4
    exact hr.sep b b' cb co cc co' cc' x x' hne (back g1) (back g2) g3 g4
  · rintro k ⟨b, co, cc, x, g1, g2, g3⟩
    exact .inl ⟨b, co, cc, x, back g1, g2, g3⟩
  · intro b cb co cc ha g1
    rw [back g1] at ha; cases ha
  · refine ⟨fun b => ?_, fun _ _ _ h => h⟩
    rcases Nat.lt_or_ge b Hi.n with h | h
    · rw [Rst.lt h, e1 b h]; exact .inr (.inl rfl)
    · exact .inl (hr'.fresh b h)
end

theorem bare_m {H : Heap} {b : Nat} {x : Blk} (h : H.m b = some x) : H.bare.m b = some ⟨[], 0, false⟩ := by simp [Heap.bare, h]

theorem abin_bare {te : Nat → Option TI} {H : Heap} {op : BinOp} {t : Nat} {x y r : AV} (h : abin te H op t x y = some r) : abin te H.bare op t x y = some r := by
  unfold abin at h ⊢
  split at h
  · exact h
  · exact h
  · rename_i b _ _ _
    split at h
    · rename_i h1 h2; simp only [h1, bare_m h2]; exact h
    · rename_i h1 h2; simp only [h1, bare_m h2]; exact h
    · cases h
  · exact h
  · exact h
  · exact h
  · exact h
  · cases h

theorem aop_bare {te : Nat → Option TI} {σ : Slots} {H H' : Heap} {op : Op} {r : AV} (hk : opKind op = 0) (h : aop te σ H op = some (r, H')) (he : H' = H) : aop te σ H.bare op = some (r, H.bare) := by
  subst he
  cases op with
  | move x => simp only [aop, Option.some.injEq, Prod.mk.injEq] at h ⊢; exact ⟨h.1, trivial⟩
  | assign x => simp only [aop, Option.some.injEq, Prod.mk.injEq] at h ⊢; exact ⟨h.1, trivial⟩
  | pick c x y =>
    simp only [aop] at h ⊢
    split at h
    · simp only [Option.some.injEq, Prod.mk.injEq] at h ⊢; exact ⟨h.1, trivial⟩
    · cases h
  | binOp op t x y _ =>
    simp only [aop, Option.map_eq_some_iff, Prod.mk.injEq] at h ⊢
    obtain ⟨v, h1, h2, _⟩ := h
    exact ⟨v, abin_bare h1, h2, trivial⟩
  | unOp op _ x =>
    simp only [aop] at h ⊢
    split at h <;> first | (simp only [Option.some.injEq, Prod.mk.injEq] at h ⊢; exact ⟨h.1, trivial⟩) | cases h
  | convert s d x =>
    simp only [aop] at h ⊢
    split at h
    · rename_i h1 h2 h3
      simp only [h1, h2, h3, Option.some.injEq, Prod.mk.injEq] at h ⊢; exact ⟨h.1, trivial⟩
    · cases h
  | build t ps =>
    simp only [aop] at h ⊢
    split at h
    · rename_i h1
      simp only [h1, Option.map_eq_some_iff, Prod.mk.injEq] at h ⊢
      obtain ⟨v, h1, h2, _⟩ := h
      exact ⟨v, h1, h2, trivial⟩
    · cases h
  | makeFunc f a c =>
    cases f with
    | func f =>
      simp only [aop] at h ⊢
      split at h
      · rename_i h0
        simp only [h0, if_true, Option.map_eq_some_iff, Prod.mk.injEq] at h ⊢
        obtain ⟨v, h1, h2, _⟩ := h
        exact ⟨v, h1, h2, trivial⟩
      · cases h
    | _ => simp [aop] at h
  | extract x i =>
    simp only [aop] at h ⊢
    split at h
    · simp only [Option.map_eq_some_iff, Prod.mk.injEq] at h ⊢
      obtain ⟨v, h1, h2, _⟩ := h
      exact ⟨v, h1, h2, trivial⟩
    · cases h
  | nilCheck x =>
    simp only [aop] at h ⊢
    generalize ev σ x = v at h ⊢
    split at h
    · split at h
      · rename_i h1
        simp only [bare_m h1, Option.some.injEq, Prod.mk.injEq] at h ⊢; exact ⟨h.1, trivial⟩
      · cases h
    · simp only [Option.some.injEq, Prod.mk.injEq] at h ⊢; exact ⟨h.1, trivial⟩
    · cases h
  | fieldAddr s x f =>
    simp only [aop] at h ⊢
    generalize ev σ x = v at h ⊢
    generalize te s = ti at h ⊢
    split at h
    · split at h
      · rename_i h3 h4
        simp only [h3, bare_m h4]
        split at h
        · rename_i h5
          rw [if_pos h5]; simp only [Option.some.injEq, Prod.mk.injEq] at h ⊢; exact ⟨h.1, trivial⟩
        · cases h
      · cases h
    · split at h
      · split at h
        · rename_i h5
          simp only [if_pos h5]; simp only [Option.some.injEq, Prod.mk.injEq] at h ⊢; exact ⟨h.1, trivial⟩
        · cases h
      · cases h
    · cases h
  | indexAddr t x ix =>
    simp only [aop] at h ⊢
    generalize ev σ x = v at h ⊢
    generalize ev σ ix = v2 at h ⊢
    generalize te t = ti at h ⊢
    split at h
    · split at h
      · rename_i h4 h5
        simp only [h4, bare_m h5]
        split at h
        · rename_i h5
          rw [if_pos h5]; simp only [Option.some.injEq, Prod.mk.injEq] at h ⊢; exact ⟨h.1, trivial⟩
        · cases h
      · cases h
    · split at h
      · rename_i h4 h5
        simp only [h4, bare_m h5]
        split at h
        · rename_i h5
          rw [if_pos h5]; simp only [Option.some.injEq, Prod.mk.injEq] at h ⊢; exact ⟨h.1, trivial⟩
        · cases h
      · cases h
    · split at h
      · split at h
        · rename_i h5
          simp only [if_pos h5]; simp only [Option.some.injEq, Prod.mk.injEq] at h ⊢; exact ⟨h.1, trivial⟩
        · cases h
      · cases h
    · split at h
      · split at h
        · rename_i h5
          simp only [if_pos h5]; simp only [Option.some.injEq, Prod.mk.injEq] at h ⊢; exact ⟨h.1, trivial⟩
        · cases h
      · cases h
    · cases h
  | call c =>
    obtain ⟨callee, args, ts⟩ := c
    cases callee with
    | value _ => simp [opKind] at hk
    | builtin b =>
      simp only [aop] at h ⊢
      generalize args.toList.map (ev σ) = l at h ⊢
      generalize ts.toList = m at h ⊢
      cases b <;> simp [opKind] at hk
      · match l, m, h with
        | [x], [t], h =>
          simp only [abuiltin] at h ⊢
          generalize te t = ti at h ⊢
          split at h
          · simp only [Option.some.injEq, Prod.mk.injEq] at h ⊢; exact ⟨h.1, trivial⟩
          · cases h
      · match l, m, h with
        | [x], [t], h =>
          simp only [abuiltin] at h ⊢
          generalize te t = ti at h ⊢
          split at h
          · simp only [Option.some.injEq, Prod.mk.injEq] at h ⊢; exact ⟨h.1, trivial⟩
          · split at h
            · rename_i h1
              simp only [bare_m h1, Option.some.injEq, Prod.mk.injEq] at h ⊢; exact ⟨h.1, trivial⟩
            · cases h
          · simp only [Option.some.injEq, Prod.mk.injEq] at h ⊢; exact ⟨h.1, trivial⟩
          · simp only [Option.some.injEq, Prod.mk.injEq] at h ⊢; exact ⟨h.1, trivial⟩
          · cases h
      all_goals
        unfold abuiltin at h ⊢
        split at h <;> first
          | (cases h; done)
          | (simp only [Option.some.injEq, Prod.mk.injEq] at h ⊢; exact ⟨h.1, trivial⟩)
          | (rename_i heq _; cases heq; done)
          | (rename_i heq; cases heq; done)
          | skip
    | _ => simp [aop] at h
  | _ => first | (simp [opKind] at hk; done) | (simp [aop] at h; done)

/-! ### The region, run once in the order of the text -/
def StepV (P : Program) (te : Nat → Option TI) (ops : Array Oper) (o : Oper) (σ : Slots) (H : Heap) (v : AV) (H' : Heap) : Prop :=
  (wantedA ops σ o = some false ∧ v = .tup [] ∧ H' = H) ∨
  (wantedA ops σ o = some true ∧ ((∃ f args, callOf σ o.op = some (f, args) ∧ ACalls P f args H v H' ∧ HExtR H H') ∨
    (aop te σ H o.op = some (v, H') ∧ (opKind o.op = 0 → H' = H) ∧ (opKind o.op = 1 → HExtR H H'))))

theorem callOf_kind {σ : Slots} {op : Op} {x : FuncId × List Cmp} (h : callOf σ op = some x) : opKind op = 1 := by
  unfold callOf at h
  split at h
  · rfl
  · cases h

theorem vd_trace {P : Program} {te : Nat → Option TI} {ops : Array Oper} {K : Slots → Heap → Prop} : ∀ (l : List Oper) (k : Nat), ops.toList.drop k = l → k ≤ ops.size → ∀ (σ : Slots) (H : Heap), VD P te ops l σ H K →
    ∃ (v : Nat → AV) (ss : Nat → Slots) (hs : Nat → Heap), ss k = σ ∧ hs k = H ∧ K (ss ops.size) (hs ops.size) ∧
      ∀ i o, k ≤ i → ops[i]? = some o → StepV P te ops o (ss i) (hs i) (v i) (hs (i + 1)) ∧ ss (i + 1) = Upd (ss i) o.dst (v i)
  | [], k, hd, hk, σ, H, hv => by
    have hle : ops.size ≤ k := by have := List.drop_eq_nil_iff.1 hd; simpa using this
    refine ⟨fun _ => .any, fun _ => σ, fun _ => H, rfl, rfl, hv, fun i o hi ho => ?_⟩
    have := (Array.getElem?_eq_some_iff.1 ho).1
    omega
  | o :: l, k, hd, hk, σ, H, hv => by
    have hko : ops[k]? = some o := by
      have : (ops.toList.drop k)[0]? = some o := by rw [hd]; rfl
      simpa using this
    have hlt : k < ops.size := (Array.getElem?_eq_some_iff.1 hko).1
    have hd' : ops.toList.drop (k + 1) = l := by
      have : (ops.toList.drop k).drop 1 = l := by rw [hd]; rfl
      rwa [List.drop_drop] at this
    have key : ∃ r H', StepV P te ops o σ H r H' ∧ VD P te ops l (Upd σ o.dst r) H' K := by
      simp only [VD] at hv
      split at hv
      · rename_i hw
        split at hv
        · rename_i f args hc
          obtain ⟨r, H', h1, h2, h3⟩ := hv
          exact ⟨r, H', .inr ⟨hw, .inl ⟨f, args, hc, h1, h2⟩⟩, h3⟩
        · split at hv
          · rename_i r H' ha
            refine ⟨r, H', .inr ⟨hw, .inr ⟨ha, fun h0 => ?_, fun h1 => ?_⟩⟩, hv.2⟩
            · have := hv.1; rw [h0] at this; exact this
            · have := hv.1; rw [h1] at this; exact this
          · exact hv.elim
      · rename_i hw
        exact ⟨.tup [], H, .inl ⟨hw, rfl, rfl⟩, hv⟩
      · exact hv.elim
    obtain ⟨r, H', h1, h2⟩ := key
    obtain ⟨v, ss, hs, g1, g2, g3, g4⟩ := vd_trace l (k + 1) hd' hlt _ _ h2
    refine ⟨fun i => if i = k then r else v i, fun i => if i = k then σ else ss i, fun i => if i = k then H else hs i, by simp, by simp, ?_, fun i o' hi ho => ?_⟩
    · have : ops.size ≠ k := by omega
      simp only [this, if_false]; exact g3
    · by_cases e : i = k
      · subst e
        rw [hko] at ho; injection ho with ho; subst ho
        have : ¬ i + 1 = i := by omega
        simp only [if_true, this, if_false]
        rw [g1, g2]; exact ⟨h1, rfl⟩
      · have h3 : ¬ i + 1 = k := by omega
        simp only [e, h3, if_false]
        exact g4 i o' (by omega) ho

structure DOk (ops : Array Oper) : Prop where
  k3 : ∀ (j : Nat) (o : Oper), ops[j]? = some o → opKind o.op ≠ 3
  back : ∀ (j : Nat) (o : Oper) (e : Edge), ops[j]? = some o → e ∈ o.after → Region.binds .any e = true → e.on < j
  one : ∀ (i j : Nat) (oi oj : Oper) (x : Tmp), i < j → ops[i]? = some oi → ops[j]? = some oj → oi.dst = some x → oj.dst = some x → False
  raw : ∀ (i j : Nat) (oi oj : Oper) (x : Tmp), i < j → ops[i]? = some oi → ops[j]? = some oj → oi.dst = some x → x ∈ looks ops oj → waitsFor ops j i = true
  war : ∀ (i j : Nat) (oi oj : Oper) (x : Tmp), i < j → ops[i]? = some oi → ops[j]? = some oj → oj.dst = some x → x ∈ looks ops oi → waitsFor ops j i = true
  w1 : ∀ (i j : Nat) (oi oj : Oper), i < j → ops[i]? = some oi → ops[j]? = some oj → opKind oi.op = 2 → opKind oj.op ≠ 1
  w2 : ∀ (i j : Nat) (oi oj : Oper), i < j → ops[i]? = some oi → ops[j]? = some oj → opKind oi.op = 2 → opKind oj.op = 2 → waitsFor ops j i = true
  rw : ∀ (i j : Nat) (oi oj : Oper), i < j → ops[i]? = some oi → ops[j]? = some oj → opKind oi.op = 1 → opKind oj.op = 2 → waitsFor ops j i = true

theorem dok_of {ops : Array Oper} (h : drawOk ops = true) : DOk ops := by
  have g : ∀ j oj, ops[j]? = some oj → ((opKind oj.op != 3) = true ∧ oj.after.toList.all (fun e => !Region.binds .any e || decide (e.on < j)) = true) ∧ ∀ i, i < j → ∀ oi, ops[i]? = some oi →
      ((((match oi.dst, oj.dst with | some x, some y => x != y | _, _ => true) = true ∧
      (match oi.dst with | some x => !(looks ops oj).contains x || waitsFor ops j i | none => true) = true) ∧
      (match oj.dst with | some y => !(looks ops oi).contains y || waitsFor ops j i | none => true) = true) ∧
      (if opKind oi.op = 2 then (opKind oj.op != 1) && (opKind oj.op != 2 || waitsFor ops j i) else true) = true) ∧
      (if decide (opKind oi.op = 1) = true ∧ decide (opKind oj.op = 2) = true then waitsFor ops j i else true) = true := by
    intro j oj hj
    have hlt := (Array.getElem?_eq_some_iff.1 hj).1
    have h1 := List.all_eq_true.1 h j (List.mem_range.2 hlt)
    simp only [hj, Bool.and_eq_true] at h1
    refine ⟨h1.1, fun i hi oi ho => ?_⟩
    have h2 := List.all_eq_true.1 h1.2 i (List.mem_range.2 hi)
    simp only [ho, Bool.and_eq_true] at h2
    exact h2
  refine ⟨?_, ?_, ?_, ?_, ?_, ?_, ?_, ?_⟩
  · intro j o ho
    simpa using (g j o ho).1.1
  · intro j o e ho he hb
    have := List.all_eq_true.1 (g j o ho).1.2 e (Array.mem_toList_iff.2 he)
    simpa [hb] using this
  · intro i j oi oj x hij hi hj h1 h2
    have := ((g j oj hj).2 i hij oi hi).1.1.1.1
    rw [h1, h2] at this
    simp at this
  · intro i j oi oj x hij hi hj h1 h2
    have := ((g j oj hj).2 i hij oi hi).1.1.1.2
    rw [h1] at this
    simpa [h2] using this
  · intro i j oi oj x hij hi hj h1 h2
    have := ((g j oj hj).2 i hij oi hi).1.1.2
    rw [h1] at this
    simpa [h2] using this
  · intro i j oi oj hij hi hj h1 h2
    have := ((g j oj hj).2 i hij oi hi).1.2
    rw [if_pos h1] at this
    simp [h2] at this
  · intro i j oi oj hij hi hj h1 h2
    have := ((g j oj hj).2 i hij oi hi).1.2
    rw [if_pos h1] at this
    simpa [h2] using this
  · intro i j oi oj hij hi hj h1 h2
    have := ((g j oj hj).2 i hij oi hi).2
    simpa [h1, h2] using this

theorem store_dom {te : Nat → Option TI} {σ : Slots} {H H' : Heap} {op : Op} {r : AV} (hk : opKind op = 2) (h : aop te σ H op = some (r, H')) : r = .any ∧ H'.n = H.n ∧ ∀ b, (∃ x, H'.m b = some x) ↔ ∃ x, H.m b = some x := by
  cases op with
  | store t a x =>
    simp only [aop] at h
    split at h
    · simp only [Option.map_eq_some_iff, Prod.mk.injEq] at h
      obtain ⟨H1, h1, h2, h3⟩ := h
      subst h3
      unfold astore at h1
      split at h1
      · rename_i hx _
        split at h1
        · injection h1 with h1; subst h1
          refine ⟨h2.symm, rfl, fun b' => ?_⟩
          rename_i b _ _ _ _ _ _ _
          simp only [Heap.set]
          split
          · rename_i e; subst e
            exact ⟨fun _ => ⟨_, hx⟩, fun _ => ⟨_, rfl⟩⟩
          · exact Iff.rfl
        · cases h1
      · cases h1
    · cases h
  | call c =>
    obtain ⟨callee, args, ts⟩ := c
    cases callee with
    | builtin b => cases b <;> simp [opKind] at hk
    | _ => simp [opKind] at hk
  | _ => simp [opKind] at hk

/-! ### The heaps along the text -/
section
variable {P : Program} {te : Nat → Option TI} {ops : Array Oper} {v : Nat → AV} {ss : Nat → Slots} {hs : Nat → Heap}
abbrev Trace (P : Program) (te : Nat → Option TI) (ops : Array Oper) (v : Nat → AV) (ss : Nat → Slots) (hs : Nat → Heap) : Prop :=
  ∀ (i : Nat) (o : Oper), ops[i]? = some o → StepV P te ops o (ss i) (hs i) (v i) (hs (i + 1)) ∧ ss (i + 1) = Upd (ss i) o.dst (v i)

theorem st0 (T : Trace P te ops v ss hs) {i : Nat} {o : Oper} (ho : ops[i]? = some o) (hk : opKind o.op = 0) : hs (i + 1) = hs i := by
  rcases (T i o ho).1 with ⟨_, _, h⟩ | ⟨_, ⟨f, args, hc, _⟩ | ⟨_, h, _⟩⟩
  · exact h
  · have := callOf_kind hc; omega
  · exact h hk
theorem st1 (T : Trace P te ops v ss hs) {i : Nat} {o : Oper} (ho : ops[i]? = some o) (hk : opKind o.op = 1) : HExtR (hs i) (hs (i + 1)) := by
  rcases (T i o ho).1 with ⟨_, _, h⟩ | ⟨_, ⟨f, args, _, _, h⟩ | ⟨_, _, h⟩⟩
  · rw [h]; exact HExtR.refl _
  · exact h
  · exact h hk
theorem st2 (T : Trace P te ops v ss hs) {i : Nat} {o : Oper} (ho : ops[i]? = some o) (hk : opKind o.op = 2) : (hs (i + 1)).n = (hs i).n ∧ ∀ b, (∃ x, (hs (i + 1)).m b = some x) ↔ ∃ x, (hs i).m b = some x := by
  rcases (T i o ho).1 with ⟨_, hv, h⟩ | ⟨_, ⟨f, args, hc, _⟩ | ⟨ha, _⟩⟩
  · rw [h]; exact ⟨rfl, fun _ => Iff.rfl⟩
  · have := callOf_kind hc; omega
  · exact (store_dom hk ha).2
theorem kinds (D : DOk ops) {i : Nat} {o : Oper} (ho : ops[i]? = some o) : opKind o.op = 0 ∨ opKind o.op = 1 ∨ opKind o.op = 2 := by
  have h3 := D.k3 i o ho
  have : opKind o.op ≤ 3 := by unfold opKind; split <;> omega
  omega

theorem rangeX (D : DOk ops) (T : Trace P te ops v ss hs) : ∀ (d i : Nat), i + d ≤ ops.size → (∀ (j : Nat) (o : Oper), i ≤ j → j < i + d → ops[j]? = some o → opKind o.op ≠ 2) → HExtR (hs i) (hs (i + d))
  | 0, i, _, _ => HExtR.refl _
  | d + 1, i, hle, hk => by
    have ho : ops[i + d]? = some ops[i + d] := Array.getElem?_eq_getElem (by omega)
    refine (rangeX D T d i (by omega) fun j o h1 h2 h3 => hk j o h1 (by omega) h3).trans ?_
    show HExtR (hs (i + d)) (hs (i + d + 1))
    rcases kinds D ho with h | h | h
    · rw [st0 T ho h]; exact HExtR.refl _
    · exact st1 T ho h
    · exact absurd h (hk (i + d) _ (by omega) (by omega) ho)
theorem range0 (D : DOk ops) (T : Trace P te ops v ss hs) : ∀ (d i : Nat), i + d ≤ ops.size → (∀ (j : Nat) (o : Oper), i ≤ j → j < i + d → ops[j]? = some o → opKind o.op = 0) → hs (i + d) = hs i
  | 0, i, _, _ => rfl
  | d + 1, i, hle, hk => by
    have ho : ops[i + d]? = some ops[i + d] := Array.getElem?_eq_getElem (by omega)
    have := range0 D T d i (by omega) fun j o h1 h2 h3 => hk j o h1 (by omega) h3
    rw [← this]
    exact st0 T ho (hk (i + d) _ (by omega) (by omega) ho)
theorem rangeD (D : DOk ops) (T : Trace P te ops v ss hs) : ∀ (d i : Nat), i + d ≤ ops.size → (hs i).n ≤ (hs (i + d)).n ∧ ∀ b, b < (hs i).n → ((∃ x, (hs (i + d)).m b = some x) ↔ ∃ x, (hs i).m b = some x)
  | 0, i, _ => ⟨Nat.le_refl _, fun _ _ => Iff.rfl⟩
  | d + 1, i, hle => by
    have ho : ops[i + d]? = some ops[i + d] := Array.getElem?_eq_getElem (by omega)
    obtain ⟨h1, h2⟩ := rangeD D T d i (by omega)
    have hs1 : (hs (i + d)).n ≤ (hs (i + d + 1)).n ∧ ∀ b, b < (hs (i + d)).n → ((∃ x, (hs (i + d + 1)).m b = some x) ↔ ∃ x, (hs (i + d)).m b = some x) := by
      rcases kinds D ho with h | h | h
      · rw [st0 T ho h]; exact ⟨Nat.le_refl _, fun _ _ => Iff.rfl⟩
      · have := st1 T ho h
        exact ⟨this.1, fun b hb => by rw [this.2.1 b hb]⟩
      · obtain ⟨h3, h4⟩ := st2 T ho h
        exact ⟨Nat.le_of_eq h3.symm, fun b _ => h4 b⟩
    exact ⟨Nat.le_trans h1 hs1.1, fun b hb => (hs1.2 b (Nat.lt_of_lt_of_le hb h1)).trans (h2 b hb)⟩
theorem rangeB (D : DOk ops) (T : Trace P te ops v ss hs) : ∀ (d i : Nat), i + d ≤ ops.size → (∀ (j : Nat) (o : Oper), i ≤ j → j < i + d → ops[j]? = some o → opKind o.op ≠ 1) → (hs (i + d)).n = (hs i).n ∧ ∀ b, ((∃ x, (hs (i + d)).m b = some x) ↔ ∃ x, (hs i).m b = some x)
  | 0, i, _, _ => ⟨rfl, fun _ => Iff.rfl⟩
  | d + 1, i, hle, hk => by
    have ho : ops[i + d]? = some ops[i + d] := Array.getElem?_eq_getElem (by omega)
    obtain ⟨h1, h2⟩ := rangeB D T d i (by omega) fun j o h1 h2 h3 => hk j o h1 (by omega) h3
    have hs1 : (hs (i + d + 1)).n = (hs (i + d)).n ∧ ∀ b, ((∃ x, (hs (i + d + 1)).m b = some x) ↔ ∃ x, (hs (i + d)).m b = some x) := by
      rcases kinds D ho with h | h | h
      · rw [st0 T ho h]; exact ⟨rfl, fun _ => Iff.rfl⟩
      · exact absurd h (hk (i + d) _ (by omega) (by omega) ho)
      · obtain ⟨h3, h4⟩ := st2 T ho h
        exact ⟨h3, h4⟩
    exact ⟨hs1.1.trans h1, fun b => (hs1.2 b).trans (h2 b)⟩

/-- slots along the text -/
theorem sig_none (T : Trace P te ops v ss hs) {t : Nat} : ∀ (i : Nat), i ≤ ops.size → (∀ (j : Nat) (o : Oper), j < i → ops[j]? = some o → o.dst ≠ some t) → ss i t = ss 0 t
  | 0, _, _ => rfl
  | i + 1, hle, h => by
    have ho : ops[i]? = some ops[i] := Array.getElem?_eq_getElem (by omega)
    rw [(T i _ ho).2]
    have hd := h i _ (by omega) ho
    have ih := sig_none T i (by omega) fun j o h1 h2 => h j o (by omega) h2
    cases hdd : ops[i].dst with
    | none => simpa [Upd] using ih
    | some d =>
      have : t ≠ d := fun e => hd (by rw [hdd, e])
      simpa [Upd, this] using ih
theorem sig_some (D : DOk ops) (T : Trace P te ops v ss hs) {t j : Nat} {oj : Oper} (hj : ops[j]? = some oj) (hd : oj.dst = some t) : ∀ (i : Nat), j < i → i ≤ ops.size → ss i t = v j
  | 0, h, _ => absurd h (Nat.not_lt_zero _)
  | i + 1, hji, hle => by
    have ho : ops[i]? = some ops[i] := Array.getElem?_eq_getElem (by omega)
    rw [(T i _ ho).2]
    by_cases e : j = i
    · subst e
      rw [hj] at ho; injection ho with ho; rw [← ho, hd]; simp [Upd]
    · have ih := sig_some D T hj hd i (by omega) (by omega)
      cases hdd : ops[i].dst with
      | none => simpa [Upd] using ih
      | some d =>
        have : t ≠ d := fun e' => D.one j i oj _ t (by omega) hj ho hd (by rw [hdd, e'])
        simpa [Upd, this] using ih
end

/-! ### The region in whatever order -/
abbrev Li (listed : Array Bool) (i : Nat) : Prop := listed.getD i false = true

structure DInv (ops : Array Oper) (N : Nat) (ds : List Deferred) (B : Nat) (v : Nat → AV) (hs : Nat → Heap) (σ : Slots) (ρ0 : Env) (w0 : World) (listed : Array Bool) (ρ : Env) (p : Nat) (a : Act) (w : World) : Prop where
  size : listed.size = ops.size
  cl : ∀ j i, Li listed j → waitsFor ops j i = true → Li listed i
  ple : p ≤ ops.size
  wr : ∀ (j : Nat) (o : Oper), ops[j]? = some o → opKind o.op = 2 → (Li listed j ↔ j < p)
  k1 : ∀ (j : Nat) (o : Oper), ops[j]? = some o → opKind o.op = 1 → j < p
  rel : Rel B ρ (hs p) w
  step : Step ρ0 (hs 0) w0 ρ ((hs p).wn (hs 0).n) w
  newb : ∀ (j : Nat) (o : Oper), ops[j]? = some o → opKind o.op = 1 → ¬ Li listed j → ∀ b, (hs j).n ≤ b → b < (hs (j + 1)).n → ρ b = .absent
  sl1 : ∀ (j : Nat) (o : Oper) (t : Tmp), ops[j]? = some o → o.dst = some t → Li listed j → CA (Rst ρ (hs (j + 1)).n) (v j) (a.tmps.getD t undef)
  sl0 : ∀ (t : Tmp), t < N → (∀ (j : Nat) (o : Oper), ops[j]? = some o → o.dst = some t → ¬ Li listed j) → CA (Rst ρ (hs 0).n) (σ t) (a.tmps.getD t undef)
  sz : a.tmps.size = N
  df : a.defers = ds

theorem li_set {listed : Array Bool} {i j : Nat} (hi : i < listed.size) : Li (listed.setIfInBounds i true) j ↔ j = i ∨ Li listed j := by
  by_cases e : i = j
  · subst e; simp [Li, hi]
  · rw [Li, getD_set_ne false e]
    constructor
    · intro h; exact .inr h
    · rintro (h | h)
      · exact absurd h.symm e
      · exact h

theorem put_tmps (a : Act) (d : Option Tmp) (rv : Value) (t : Tmp) (ht : t < a.tmps.size) : (a.put d rv).tmps.getD t undef = if d = some t then rv else a.tmps.getD t undef := by
  cases d with
  | none => rfl
  | some d =>
    simp only [Act.put]
    by_cases e : d = t
    · subst e; simp [ht]
    · simp [Array.getElem?_setIfInBounds_ne e, e]

section
variable {P : Program} {te : Nat → Option TI} {ops : Array Oper} {v : Nat → AV} {ss : Nat → Slots} {hs : Nat → Heap} {N B : Nat} {ds : List Deferred} {ρ0 ρ : Env} {w0 w : World} {listed : Array Bool} {p : Nat} {a : Act}

theorem dst_lt (hall : ops.toList.all (operOk N) = true) {j : Nat} {o : Oper} {d : Tmp} (ho : ops[j]? = some o) (hd : o.dst = some d) : d < N := by
  have := List.all_eq_true.1 hall o (Array.mem_toList_iff.2 (Array.mem_of_getElem? ho))
  simp only [operOk, Bool.and_eq_true] at this
  have h2 := this.2
  rw [hd] at h2
  simpa [dstOk] using h2

/-- what a ready operation looks at is what it is in the text's order -/
theorem DInv.look (D : DOk ops) (T : Trace P te ops v ss hs) (I : DInv ops N ds B v hs (ss 0) ρ0 w0 listed ρ p a w) {i : Nat} {o : Oper} (ho : ops[i]? = some o) (hli : ¬ Li listed i)
    (hrd : ∀ j, waitsFor ops i j = true → Li listed j) {t : Tmp} (ht : t ∈ looks ops o) (htN : t < N) : CA (Rst ρ (hs i).n) (ss i t) (a.tmps.getD t undef) := by
  have hlt : i < ops.size := (Array.getElem?_eq_some_iff.1 ho).1
  by_cases hex : ∃ (j : Nat) (oj : Oper), j < i ∧ ops[j]? = some oj ∧ oj.dst = some t
  · obtain ⟨j, oj, h1, h2, h3⟩ := hex
    rw [sig_some D T h2 h3 i h1 (by omega)]
    refine (I.sl1 j oj t h2 h3 (hrd j (D.raw j i oj o t h1 h2 ho h3 ht))).mono (Rst.mono ?_)
    have := (rangeD D T (i - (j + 1)) (j + 1) (by omega)).1
    rwa [show j + 1 + (i - (j + 1)) = i by omega] at this
  · rw [sig_none T i (by omega) fun j oj h1 h2 h3 => hex ⟨j, oj, h1, h2, h3⟩]
    refine (I.sl0 t htN fun j oj h2 h3 hj => ?_).mono (Rst.mono ?_)
    · rcases Nat.lt_trichotomy j i with h | h | h
      · exact hex ⟨j, oj, h, h2, h3⟩
      · subst h; exact hli hj
      · exact hli (I.cl j i hj (D.war i j o oj t h ho h2 h3 ht))
    · have := (rangeD D T i 0 (by omega)).1
      rwa [Nat.zero_add] at this

theorem DInv.next (D : DOk ops) (T : Trace P te ops v ss hs) (I : DInv ops N ds B v hs (ss 0) ρ0 w0 listed ρ p a w) (hall : ops.toList.all (operOk N) = true) {i : Nat} {o : Oper} (ho : ops[i]? = some o) (hli : ¬ Li listed i)
    (hrd : ∀ j, waitsFor ops i j = true → Li listed j) {p' : Nat} (hp1 : opKind o.op ≠ 2 → p' = p) (hp2 : opKind o.op = 2 → p' = i + 1) {ρ2 : Env} {w' : World} {rv : Value}
    (hrel : Rel B ρ2 (hs p') w') (hst : Step ρ ((hs p).wn (hs 0).n) w ρ2 ((hs p').wn (hs 0).n) w') (hv : CA (Rst ρ2 (hs (i + 1)).n) (v i) rv)
    (hnew : ∀ (j : Nat) (oj : Oper), ops[j]? = some oj → opKind oj.op = 1 → ¬ Li listed j → j ≠ i → ∀ b, (hs j).n ≤ b → b < (hs (j + 1)).n → ρ2 b = .absent) :
    DInv ops N ds B v hs (ss 0) ρ0 w0 (listed.setIfInBounds i true) ρ2 p' (a.put o.dst rv) w' := by
  have hlt : i < ops.size := (Array.getElem?_eq_some_iff.1 ho).1
  have hls : i < listed.size := by rw [I.size]; exact hlt
  have htm : ∀ t, t < N → (a.put o.dst rv).tmps.getD t undef = if o.dst = some t then rv else a.tmps.getD t undef := fun t ht => put_tmps a o.dst rv t (by rw [I.sz]; exact ht)
  refine ⟨by rw [Array.size_setIfInBounds]; exact I.size, ?_, ?_, ?_, ?_, hrel, I.step.trans hst, ?_, ?_, ?_, by rw [Act.put_size]; exact I.sz, by cases o.dst <;> exact I.df⟩
  · intro j k hj hw
    rw [li_set hls] at hj ⊢
    rcases hj with h | h
    · subst h; exact .inr (hrd k hw)
    · exact .inr (I.cl j k h hw)
  · by_cases h : opKind o.op = 2
    · rw [hp2 h]; omega
    · rw [hp1 h]; exact I.ple
  · intro j oj hj hk
    rw [li_set hls]
    by_cases h : opKind o.op = 2
    · rw [hp2 h]
      constructor
      · rintro (e | e)
        · omega
        · rcases Nat.lt_trichotomy j i with h1 | h1 | h1
          · omega
          · omega
          · exact absurd (I.cl j i e (D.w2 i j o oj h1 ho hj h hk)) hli
      · intro h1
        by_cases e : j = i
        · exact .inl e
        · exact .inr (hrd j (D.w2 j i oj o (by omega) hj ho hk h))
    · rw [hp1 h]
      constructor
      · rintro (e | e)
        · subst e; rw [hj] at ho; injection ho with ho; subst ho; exact absurd hk h
        · exact (I.wr j oj hj hk).1 e
      · intro h1; exact .inr ((I.wr j oj hj hk).2 h1)
  · intro j oj hj hk
    by_cases h : opKind o.op = 2
    · rw [hp2 h]
      rcases Nat.lt_trichotomy j i with h1 | h1 | h1
      · omega
      · omega
      · exact absurd hk (D.w1 i j o oj h1 ho hj h)
    · rw [hp1 h]; exact I.k1 j oj hj hk
  · intro j oj hj hk hl
    rw [li_set hls] at hl
    exact hnew j oj hj hk (fun h => hl (.inr h)) (fun h => hl (.inl h))
  · intro j oj t hj hd hl
    have htN := dst_lt hall hj hd
    rw [htm t htN]
    rw [li_set hls] at hl
    by_cases e : j = i
    · subst e
      rw [hj] at ho; injection ho with ho; subst ho
      rw [if_pos hd]; exact hv
    · have hne : ¬ o.dst = some t := fun h => by
        rcases Nat.lt_or_ge i j with h1 | h1
        · exact D.one i j o oj t h1 ho hj h hd
        · exact D.one j i oj o t (by omega) hj ho hd h
      rw [if_neg hne]
      exact (I.sl1 j oj t hj hd (hl.resolve_left e)).mono (Rst.le2 hst.le)
  · intro t ht hno
    rw [htm t ht]
    have hne : ¬ o.dst = some t := fun h => hno i o ho h ((li_set hls).2 (.inl rfl))
    rw [if_neg hne]
    exact (I.sl0 t ht fun j oj hj hd hl => hno j oj hj hd ((li_set hls).2 (.inr hl))).mono (Rst.le2 hst.le)

theorem wn_own {H : Heap} {n k : Nat} : Own ρ (H.wn n) k ↔ Own ρ H k := Iff.rfl

/-- a ready operation -/
theorem DInv.op (hte : TEok P te) (D : DOk ops) (T : Trace P te ops v ss hs) (hall : ops.toList.all (operOk N) = true) (h0 : Rel B ρ0 (hs 0) w0) (I : DInv ops N ds B v hs (ss 0) ρ0 w0 listed ρ p a w) {i : Nat} {o : Oper} (ho : ops[i]? = some o) (hli : ¬ Li listed i)
    (hrd : ∀ j, waitsFor ops i j = true → Li listed j) {ro : Option Nat} {n : Nat} {K : Act → World → Prop} {Q : Exit → Act → World → Prop}
    (hK : ∀ ρ2 p' a' w', DInv ops N ds B v hs (ss 0) ρ0 w0 (listed.setIfInBounds i true) ρ2 p' a' w' → K a' w') : wpOpIn (FW ro) n P ops Q i K a w := by
  have hlt : i < ops.size := (Array.getElem?_eq_some_iff.1 ho).1
  have hmem : o ∈ ops.toList := Array.mem_toList_iff.2 (Array.mem_of_getElem? ho)
  have hok := List.all_eq_true.1 hall o hmem
  simp only [operOk, Bool.and_eq_true, List.all_eq_true] at hok
  have hx : ∀ x ∈ o.op.operands.toList, CA (Rst ρ (hs i).n) (ev (ss i) x) (a.eval x) := fun x hx => ev_ok fun t ht => by
    subst ht
    have h1 := hok.1 _ hx
    refine I.look D T ho hli hrd ?_ (by simpa [opdOk] using h1)
    exact List.mem_append_left _ (List.mem_filterMap.2 ⟨.tmp t, hx, rfl⟩)
  have hw : ∀ b, wantedA ops (ss i) o = some b → Region.wanted o (yielded ops a.tmps) = b := by
    intro b hb
    cases hg : o.guard with
    | none =>
      simp only [wantedA, hg] at hb
      simpa [Region.wanted, hg] using hb
    | some g =>
      obtain ⟨j, want⟩ := g
      refine wanted_ok (ρ := Rst ρ (hs i).n) hb fun d hd => ?_
      simp only [hg, Option.map_some, Option.getD_some] at hd
      have hdN : d < N := by
        rw [Option.bind_eq_some_iff] at hd
        obtain ⟨oj, h1, h2⟩ := hd
        exact dst_lt hall h1 h2
      refine ⟨by rw [I.sz]; exact hdN, I.look D T ho hli hrd ?_ hdN⟩
      refine List.mem_append_right _ ?_
      rw [hg]; simp only
      rw [hd]; simp
  have hi0 := rangeD D T i 0 (by omega)
  rw [Nat.zero_add] at hi0
  have n0i := hi0.1
  -- writers come last
  have hs2 : opKind o.op = 2 → p ≤ i ∧ hs i = hs p := fun hk => by
    have hpi : p ≤ i := by
      rcases Nat.lt_or_ge i p with h | h
      · exact absurd ((I.wr i o ho hk).2 h) hli
      · exact h
    refine ⟨hpi, ?_⟩
    have := range0 D T (i - p) p (by omega) fun j oj h1 h2 h3 => by
      rcases kinds D h3 with h | h | h
      · exact h
      · have := I.k1 j oj h3 h; omega
      · have := (I.wr j oj h3 h).1 (hrd j (D.w2 j i oj o (by omega) h3 ho h hk)); omega
    rwa [show p + (i - p) = i by omega] at this
  have hno1 : opKind o.op = 2 → ∀ (j : Nat) (oj : Oper), ops[j]? = some oj → opKind oj.op = 1 → ¬ Li listed j → False := fun hk j oj hj hk1 hl => by
    rcases Nat.lt_trichotomy j i with h1 | h1 | h1
    · exact hl (hrd j (D.rw j i oj o h1 hj ho hk1 hk))
    · subst h1; rw [hj] at ho; injection ho with ho; subst ho; omega
    · exact absurd hk1 (D.w1 i j o oj h1 ho hj hk)
  -- heaps of those that make memory
  have hs1 : opKind o.op = 1 → HExtR (hs 0) (hs i) ∧ HExtR (hs i) (hs (i + 1)) ∧ HExtR (hs (i + 1)) (hs p) := fun hk => by
    have hip := I.k1 i o ho hk
    have hno : ∀ (j : Nat) (oj : Oper), j < p → ops[j]? = some oj → opKind oj.op ≠ 2 := fun j oj hj h hk2 => by
      have hl := (I.wr j oj h hk2).2 hj
      rcases Nat.lt_trichotomy j i with h1 | h1 | h1
      · exact D.w1 j i oj o h1 h ho hk2 hk
      · subst h1; exact hli hl
      · exact hli (I.cl j i hl (D.rw i j o oj h1 ho h hk hk2))
    have ple := I.ple
    refine ⟨?_, st1 T ho hk, ?_⟩
    · have := rangeX D T i 0 (by omega) fun j oj _ h2 h3 => hno j oj (by omega) h3
      rwa [Nat.zero_add] at this
    · have := rangeX D T (p - (i + 1)) (i + 1) (by omega) fun j oj _ h2 h3 => hno j oj (by omega) h3
      rwa [show i + 1 + (p - (i + 1)) = p by omega] at this
  -- what lives
  have hdom : opKind o.op = 0 → (hs i).n ≤ (hs p).n ∧ ∀ b, b < (hs i).n → ((∃ x, (hs p).m b = some x) ↔ ∃ x, (hs i).m b = some x) := fun hk => by
    rcases Nat.lt_or_ge p i with h | h
    · have := rangeB D T (i - p) p (by omega) fun j oj h1 h2 h3 hk1 => by have := I.k1 j oj h3 hk1; omega
      rw [show p + (i - p) = i by omega] at this
      exact ⟨Nat.le_of_eq this.1, fun b _ => (this.2 b).symm⟩
    · have := rangeD D T (p - i) i (by have := I.ple; omega)
      rwa [show i + (p - i) = p by omega] at this
  have nmono : ∀ j k, j ≤ k → k ≤ ops.size → (hs j).n ≤ (hs k).n := fun j k h1 h2 => by
    have := (rangeD D T (k - j) j (by omega)).1
    rwa [show j + (k - j) = k by omega] at this
  have newn : ∀ {ρ2 : Env} {n1 : Nat}, (hs i).n ≤ n1 → n1 ≤ (hs (i + 1)).n → (∀ b, n1 ≤ b → ρ2 b = ρ b) → (∀ b, b < (hs i).n → ρ b = .absent → ρ2 b = .absent) →
      ∀ (j : Nat) (oj : Oper), ops[j]? = some oj → opKind oj.op = 1 → ¬ Li listed j → j ≠ i → ∀ b, (hs j).n ≤ b → b < (hs (j + 1)).n → ρ2 b = .absent := by
    intro ρ2 n1 hn1 hn2 e2 habs j oj hj hk hl hne b hb1 hb2
    have hab := I.newb j oj hj hk hl b hb1 hb2
    have hjs : j < ops.size := (Array.getElem?_eq_some_iff.1 hj).1
    rcases Nat.lt_or_ge j i with h1 | h1
    · have := nmono (j + 1) i (by omega) (by omega)
      exact habs b (by omega) hab
    · have := nmono (i + 1) j (by omega) (by omega)
      rw [e2 b (by omega)]; exact hab
  unfold wpOpIn
  simp only [ho]
  rcases (T i o ho).1 with ⟨hwf, hv, hh⟩ | ⟨hwt, hrun⟩
  · -- not wanted
    rw [hw _ hwf]
    simp only [Bool.false_eq_true, if_false]
    refine ⟨fun _ _ => trivial, ?_⟩
    by_cases hk : opKind o.op = 2
    · obtain ⟨hpi, he⟩ := hs2 hk
      refine hK ρ (i + 1) _ w (I.next D T hall ho hli hrd (p' := i + 1) (fun h => absurd hk h) (fun _ => rfl) (by rw [hh, he]; exact I.rel) (by rw [hh, he]; exact Step.refl _ _ _) (by rw [hv]; exact ⟨[], trivial, rfl⟩) fun j oj hj hk1 hl => (hno1 hk j oj hj hk1 hl).elim)
    · exact hK ρ p _ w (I.next D T hall ho hli hrd (p' := p) (fun _ => rfl) (fun h => absurd h hk) I.rel (Step.refl _ _ _) (by rw [hv]; exact ⟨[], trivial, rfl⟩) fun j oj hj hk1 hl _ => I.newb j oj hj hk1 hl)
  · rw [hw _ hwt]
    simp only [if_true]
    rcases hrun with ⟨f, args, hc, hac, _⟩ | ⟨hop, _, _⟩
    · -- a call
      have hk := callOf_kind hc
      obtain ⟨x0, x1, x2⟩ := hs1 hk
      refine oper_wp_call (frame1 h0 x0 (x1.trans x2) I.step I.rel) hx hc hac fun rv w' ρ' r H' hR h1 h2 h3 => ?_
      obtain ⟨rfl, rfl⟩ := hR
      obtain ⟨ρ2, g1, g2, g3, g4, g5⟩ := frame1' x0 x1 x2 I.rel (fun b => I.newb i o ho hk hli b) h2 h3
      exact hK ρ2 p _ w' (I.next D T hall ho hli hrd (p' := p) (fun _ => rfl) (fun h => by omega) g1 g2 (h1.mono g3) (newn x1.1 (Nat.le_refl _) g4 g5))
    · rcases kinds D ho with hk | hk | hk
      · obtain ⟨hn, hd⟩ := hdom hk
        have he := st0 T ho hk
        refine oper_wp_op hte (frame0 (fun b hb h => (hd b hb).2 h) I.rel) hx (aop_bare hk hop he) fun rv w' ρ' h1 h2 h3 => ?_
        obtain ⟨ρ2, g1, g2, g3, g4, g5⟩ := frame0' n0i hn (fun b hb h => (hd b hb).1 h) I.rel h2 h3
        exact hK ρ2 p _ w' (I.next D T hall ho hli hrd (p' := p) (fun _ => rfl) (fun h => by omega) g1 g2 (by rw [he]; exact h1.mono g3) (newn (Nat.le_refl _) (by rw [he]; exact Nat.le_refl _) g4 g5))
      · obtain ⟨x0, x1, x2⟩ := hs1 hk
        refine oper_wp_op hte (frame1 h0 x0 (x1.trans x2) I.step I.rel) hx hop fun rv w' ρ' h1 h2 h3 => ?_
        obtain ⟨ρ2, g1, g2, g3, g4, g5⟩ := frame1' x0 x1 x2 I.rel (fun b => I.newb i o ho hk hli b) h2 h3
        exact hK ρ2 p _ w' (I.next D T hall ho hli hrd (p' := p) (fun _ => rfl) (fun h => by omega) g1 g2 (h1.mono g3) (newn x1.1 (Nat.le_refl _) g4 g5))
      · obtain ⟨hpi, he⟩ := hs2 hk
        refine oper_wp_op hte (ρ := ρ) (H := hs i) (by rw [he]; exact I.rel) (fun x h => (hx x h).mono Rst.le) hop fun rv w' ρ' h1 h2 h3 => ?_
        refine hK ρ' (i + 1) _ w' (I.next D T hall ho hli hrd (p' := i + 1) (fun h => absurd hk h) (fun _ => rfl) h2 ?_ (by rw [(store_dom hk hop).1]; trivial) fun j oj hj hk1 hl => (hno1 hk j oj hj hk1 hl).elim)
        rw [← he]
        exact ⟨h3.os, h3.tape, h3.output, h3.size, h3.keep, h3.own, h3.le, h3.new, Nat.le_refl _, fun b hb ha => h3.abs b (Nat.lt_of_lt_of_le hb n0i) ha, h3.memn⟩

theorem waits_of {i j : Nat} {o : Oper} (ho : ops[i]? = some o) (h : ∀ e ∈ o.after, Region.binds .any e = true → listed.getD e.on false = true) (hw : waitsFor ops i j = true) : Li listed j := by
  simp only [waitsFor, ho, List.any_eq_true, Bool.and_eq_true, beq_iff_eq] at hw
  obtain ⟨e, h1, h2, rfl⟩ := hw
  exact h e (Array.mem_toList_iff.1 h1) h2

theorem getD_tf {listed : Array Bool} {i : Nat} (h : i < listed.size) : listed.getD i true = listed.getD i false := by simp [h]

theorem DInv.all (D : DOk ops) (hsz : listed.size = ops.size) (h : Region.ready .any ops listed = []) : ∀ i, i < ops.size → Li listed i := by
  intro i
  induction i using Nat.strongRecOn with
  | _ i ih =>
    intro hi
    by_cases hl : Li listed i
    · exact hl
    · exfalso
      have : i ∈ Region.ready .any ops listed := by
        rw [mem_ready]
        refine ⟨?_, ops[i], Array.getElem?_eq_getElem hi, fun e he hb => ?_⟩
        · rw [getD_tf (by omega)]
          cases hh : listed.getD i false with
          | false => rfl
          | true => exact absurd hh hl
        · have := D.back i _ e (Array.getElem?_eq_getElem hi) he hb
          exact ih e.on this (by omega)
      rw [h] at this; cases this

theorem DInv.any (hte : TEok P te) (D : DOk ops) (T : Trace P te ops v ss hs) (hall : ops.toList.all (operOk N) = true) (h0 : Rel B ρ0 (hs 0) w0) {ro : Option Nat} {n : Nat} {Q : Exit → Act → World → Prop}
    (hQ : ∀ listed ρ p a w, DInv ops N ds B v hs (ss 0) ρ0 w0 listed ρ p a w → (∀ i, i < ops.size → Li listed i) → Q .normal a w) :
    ∀ (fuel : Nat) (l : List Nat) (listed : Array Bool) (ρ : Env) (p : Nat) (a : Act) (w : World), l.length ≤ fuel → (∀ i, i < ops.size → ¬ Li listed i → i ∈ l) → DInv ops N ds B v hs (ss 0) ρ0 w0 listed ρ p a w → wpAnyIn (FW ro) n P .any ops Q fuel listed a w
  | 0, l, listed, ρ, p, a, w, hl, hm, I => by
    have hnil : l = [] := List.length_eq_zero_iff.1 (by omega)
    have hallL : ∀ i, i < ops.size → Li listed i := fun i hi => by
      by_cases h : Li listed i
      · exact h
      · have := hm i hi h; rw [hnil] at this; cases this
    refine ⟨?_, hQ _ _ _ _ _ I hallL⟩
    refine List.eq_nil_iff_forall_not_mem.2 fun i hi => ?_
    obtain ⟨h1, o, ho, _⟩ := mem_ready.1 hi
    have hlt : i < ops.size := (Array.getElem?_eq_some_iff.1 ho).1
    rw [getD_tf (by rw [I.size]; exact hlt)] at h1
    have := hallL i hlt
    rw [Li, h1] at this; cases this
  | fuel + 1, l, listed, ρ, p, a, w, hl, hm, I => by
    refine ⟨fun h => hQ _ _ _ _ _ I (DInv.all D I.size h), fun i hi => ?_⟩
    obtain ⟨h1, o, ho, hall'⟩ := mem_ready.1 hi
    have hlt : i < ops.size := (Array.getElem?_eq_some_iff.1 ho).1
    have hls : i < listed.size := by rw [I.size]; exact hlt
    rw [getD_tf hls] at h1
    have hli : ¬ Li listed i := fun h => by rw [Li, h1] at h; cases h
    refine I.op hte D T hall h0 ho hli (fun j hj => waits_of ho hall' hj) fun ρ2 p' a' w' I' => ?_
    have hmi := hm i hlt hli
    refine DInv.any hte D T hall h0 hQ fuel (l.erase i) _ ρ2 p' a' w' (by rw [List.length_erase_of_mem hmi]; omega) (fun j hj hlj => ?_) I'
    rw [li_set hls] at hlj
    have hji : j ≠ i := fun h => hlj (.inl h)
    exact (List.mem_erase_of_ne hji).2 (hm j hj fun h => hlj (.inr h))
end

section
variable {P : Program} {te : Nat → Option TI} {B N : Nat} {ds : List Deferred}
theorem vd_ok (hte : TEok P te) (hmx : P.follows .mixedOrders = true) {ro : Option Nat} {n : Nat} {id : Nat} {ops : Array Oper} (hall : ops.toList.all (operOk N) = true) (hd : drawOk ops = true)
    {σ : Slots} {H : Heap} {ρ : Env} {a : Act} {w : World} {Q : Exit → Slots → Heap → Prop} (hf : Fits B N ds ρ σ H a w) (hv : VD P te ops ops.toList σ H (Q .normal)) :
    (Code.region id ops true).wpIn (FW ro) n P (QC B N ds ρ H w Q) a w := by
  have D := dok_of hd
  obtain ⟨v, ss, hs, rfl, rfl, hK, hT⟩ := vd_trace ops.toList 0 rfl (Nat.zero_le _) σ H hv
  have T : Trace P te ops v ss hs := fun i o ho => hT i o (Nat.zero_le _) ho
  refine wpIn_region_any hmx ?_
  -- the first writer
  have hp : ∃ p, p ≤ ops.size ∧ (∀ (j : Nat) (o : Oper), j < p → ops[j]? = some o → opKind o.op ≠ 2) ∧ (∀ (j : Nat) (o : Oper), ops[j]? = some o → opKind o.op = 1 → j < p) := by
    have key : ∀ d, d ≤ ops.size → (∀ (j : Nat) (o : Oper), j < d → ops[j]? = some o → opKind o.op ≠ 2) ∨ ∃ p, p < d ∧ (∃ o, ops[p]? = some o ∧ opKind o.op = 2) ∧ (∀ (j : Nat) (o : Oper), j < p → ops[j]? = some o → opKind o.op ≠ 2) := by
      intro d
      induction d with
      | zero => intro _; exact .inl fun j o h => absurd h (Nat.not_lt_zero _)
      | succ d ih =>
        intro hle
        rcases ih (by omega) with h | ⟨p, h1, h2⟩
        · have ho : ops[d]? = some ops[d] := Array.getElem?_eq_getElem (by omega)
          by_cases hk : opKind ops[d].op = 2
          · exact .inr ⟨d, by omega, ⟨_, ho, hk⟩, h⟩
          · refine .inl fun j o hj h3 => ?_
            by_cases e : j = d
            · subst e; rw [h3] at ho; injection ho with ho; rw [ho]; exact hk
            · exact h j o (by omega) h3
        · exact .inr ⟨p, by omega, h2⟩
    rcases key ops.size (Nat.le_refl _) with h | ⟨p, h1, ⟨o, h2, h3⟩, h4⟩
    · exact ⟨ops.size, Nat.le_refl _, h, fun j o hj _ => (Array.getElem?_eq_some_iff.1 hj).1⟩
    · refine ⟨p, by omega, h4, fun j oj hj hk => ?_⟩
      rcases Nat.lt_trichotomy j p with g | g | g
      · exact g
      · subst g; rw [hj] at h2; injection h2 with h2; subst h2; omega
      · exact absurd hk (D.w1 p j o oj g h2 hj h3)
  obtain ⟨p, hple, hnw, hk1⟩ := hp
  have hX := rangeX D T p 0 (by omega) fun j o _ h2 h3 => hnw j o (by omega) h3
  rw [Nat.zero_add] at hX
  have hr := hf.1
  have hnone : ∀ j, ¬ Li (Array.replicate ops.size false) j := fun j h => by
    rcases Nat.lt_or_ge j ops.size with g | g
    · simp [Li, g] at h
    · simp [Li, Nat.not_lt.2 g] at h
  have lt0 : ∀ {b}, ρ b ≠ .absent → b < (hs 0).n := fun h => hr.lt' h
  have I : DInv ops N ds B v hs (ss 0) ρ w (Array.replicate ops.size false) ρ p a { w with drawn := w.drawn + 1 } := by
    refine ⟨by simp, fun j i h => absurd h (hnone j), hple, fun j o hj hk => ⟨fun h => absurd h (hnone j), fun h => absurd hk (hnw j o h hj)⟩, hk1, ?_, ?_, ?_, fun j o t hj hd' h => absurd h (hnone j), ?_, hf.2.2.1, hf.2.2.2⟩
    · refine Rel.drew ?_ _
      refine ⟨⟨hr.hB, fun b hb => hr.fresh b (Nat.le_trans hX.1 hb), ?_, ?_, ?_⟩, fun cb j v hv => ⟨(hr.imm cb j v hv).1, fun ⟨b, co, cc, x, g1, g2, g3⟩ => (hr.imm cb j v hv).2 ⟨b, co, cc, x, g1, by rw [← hX.2.1 b (lt0 (by rw [g1]; exact fun h => by cases h))]; exact g2, g3⟩⟩⟩
      · intro b x hb
        rcases Nat.lt_or_ge b (hs 0).n with h | h
        · exact hr.live b x (by rw [← hX.2.1 b h]; exact hb)
        · rw [hr.fresh b h]; exact fun h => by cases h
      · intro b cb co cc x hb hm
        have hl := lt0 (b := b) (by rw [hb]; exact fun h => by cases h)
        exact hr.blk b cb co cc x hb (by rw [← hX.2.1 b hl]; exact hm)
      · intro b b' cb co cc co' cc' x x' hne g1 g2 g3 g4
        have l1 := lt0 (b := b) (by rw [g1]; exact fun h => by cases h)
        have l2 := lt0 (b := b') (by rw [g2]; exact fun h => by cases h)
        exact hr.sep b b' cb co cc co' cc' x x' hne g1 g2 (by rw [← hX.2.1 b l1]; exact g3) (by rw [← hX.2.1 b' l2]; exact g4)
    · refine ⟨rfl, rfl, rfl, Nat.le_refl _, fun _ _ _ => rfl, ?_, Le.refl _, fun b cb co cc h h' => (by rw [h] at h'; cases h'), Nat.le_refl _, fun _ _ h => h, fun _ _ _ h => .inl h⟩
      rintro k ⟨b, co, cc, x, g1, g2, g3⟩
      have l1 := lt0 (b := b) (by rw [g1]; exact fun h => by cases h)
      exact .inl ⟨b, co, cc, x, g1, by rw [← hX.2.1 b l1]; exact g2, g3⟩
    · intro j o hj hk _ b hb _
      have := (rangeD D T j 0 (by have := (Array.getElem?_eq_some_iff.1 hj).1; omega)).1
      rw [Nat.zero_add] at this
      exact hr.fresh b (Nat.le_trans this hb)
    · intro t ht _
      refine (hf.2.1 t (by rw [hf.2.2.1]; exact ht)).mono (show Le ρ (Rst ρ (hs 0).n) from ⟨fun b => ?_, fun _ _ _ h => h⟩)
      rcases Nat.lt_or_ge b (hs 0).n with h | h
      · rw [Rst.lt h]; exact .inr (.inl rfl)
      · exact .inl (hr.fresh b h)
  refine DInv.any hte D T hall hr (fun listed ρ' p' a' w' I' hL => ?_) ops.size (List.range ops.size) _ ρ p a _ (by simp) (fun i hi _ => List.mem_range.2 hi) I
  have hend : hs ops.size = hs p' := by
    have := range0 D T (ops.size - p') p' (by have := I'.ple; omega) fun j oj h1 h2 h3 => by
      rcases kinds D h3 with h | h | h
      · exact h
      · have := I'.k1 j oj h3 h; omega
      · have := (I'.wr j oj h3 h).1 (hL j (Array.getElem?_eq_some_iff.1 h3).1); omega
    rwa [show p' + (ops.size - p') = ops.size by have := I'.ple; omega] at this
  have hn0 := (rangeD D T ops.size 0 (by omega)).1
  rw [Nat.zero_add] at hn0
  refine ⟨ρ', ss ops.size, hs ops.size, ?_, ⟨by rw [hend]; exact I'.rel, ?_, I'.sz, I'.df⟩, hK⟩
  · have h3 := I'.step
    rw [← hend] at h3
    exact ⟨h3.os, h3.tape, h3.output, h3.size, h3.keep, h3.own, h3.le, h3.new, hn0, h3.abs, h3.memn⟩
  · intro t ht
    rw [I'.sz] at ht
    by_cases hex : ∃ (j : Nat) (oj : Oper), ops[j]? = some oj ∧ oj.dst = some t
    · obtain ⟨j, oj, h1, h2⟩ := hex
      have hjs := (Array.getElem?_eq_some_iff.1 h1).1
      rw [sig_some D T h1 h2 ops.size hjs (Nat.le_refl _)]
      exact (I'.sl1 j oj t h1 h2 (hL j hjs)).mono Rst.le
    · rw [sig_none T ops.size (Nat.le_refl _) fun j oj _ h1 h2 => hex ⟨j, oj, h1, h2⟩]
      exact (I'.sl0 t ht fun j oj h1 h2 => absurd ⟨j, oj, h1, h2⟩ hex).mono Rst.le
end
end Go.Abs
/-
  The conditions of a piece of code, and that they suffice.
-/
namespace Go.Abs
set_option linter.unusedVariables false
set_option linter.unusedSimpArgs false
open Go.RowKit

abbrev Post := Exit → Slots → Heap → Prop

def PThen (K : Slots → Heap → Prop) (Q : Post) : Post
  | .normal, σ, H => K σ H
  | e, σ, H => Q e σ H

def PBlock (id : Nat) (Q : Post) : Post
  | .exit i, σ, H => if i = id then Q .normal σ H else Q (.exit i) σ H
  | e, σ, H => Q e σ H

/-- less is said: of slots, and of the heap -/
def Weak (σ : Slots) (H : Heap) (σ1 : Slots) (H1 : Heap) : Prop :=
  ∀ (B N : Nat) (ds : List Deferred) (ρ : Env) (a : Act) (w : World), Fits B N ds ρ σ H a w → ∃ ρ', Step ρ H w ρ' H1 w ∧ Fits B N ds ρ' σ1 H1 a w
theorem Weak.refl (σ : Slots) (H : Heap) : Weak σ H σ H := fun _ _ _ ρ _ _ hf => ⟨ρ, Step.refl _ _ _, hf⟩
theorem Weak.trans {σ σ1 σ2 : Slots} {H H1 H2 : Heap} (h : Weak σ H σ1 H1) (k : Weak σ1 H1 σ2 H2) : Weak σ H σ2 H2 := fun B N ds ρ a w hf => by
  obtain ⟨ρ1, a1, a2⟩ := h B N ds ρ a w hf
  obtain ⟨ρ2, b1, b2⟩ := k B N ds ρ1 a w a2
  exact ⟨ρ2, a1.trans b1, b2⟩

def VC (P : Program) (te : Nat → Option TI) : Code → Slots → Heap → Post → Prop
  | .skip, σ, H, Q => Q .normal σ H
  | .region _ ops false, σ, H, Q => VOps P te ops ops.toList σ H (Q .normal)
  | .region _ ops true, σ, H, Q => drawOk ops = true ∧ VD P te ops ops.toList σ H (Q .normal)
  | .seq x y, σ, H, Q => VC P te x σ H (PThen (fun σ H => ∃ σ1 H1, Weak σ H σ1 H1 ∧ VC P te y σ1 H1 Q) Q)
  | .cond c x y, σ, H, Q =>
    match ev σ c with
    | .s (.raw (.bool b)) => if b = true then VC P te x σ H Q else VC P te y σ H Q
    | _ => False
  | .block id c, σ, H, Q => VC P te c σ H (PBlock id Q)
  | .loop c, σ, H, Q => ∃ (I : Nat → Slots → Heap → Prop) (k : Nat), I k σ H ∧ ∀ k σ H, I k σ H → VC P te c σ H (PThen (fun σ' H' => ∃ k', k' < k ∧ I k' σ' H') Q)
  | .exit id, σ, H, Q => Q (.exit id) σ H
  | .ret, σ, H, Q => Q .ret σ H
  | .label _, σ, H, Q => Q .normal σ H
  | _, _, _, _ => False

def codeOk (N : Nat) : Code → Bool
  | .region _ ops _ => ops.toList.all (operOk N)
  | .seq x y => codeOk N x && codeOk N y
  | .cond c x y => opdOk N c && codeOk N x && codeOk N y
  | .block _ c => codeOk N c
  | .loop c => codeOk N c
  | _ => true

/-- a loop's rule with a number beside the state -/
theorem wpIn_loop_k {F : Fence} {n : Nat} {P : Program} {Q : Exit → Act → World → Prop} {a : Act} {w : World} {c : Code} (I : Nat → Act → World → Prop) {k : Nat} (h₀ : I k a w)
    (round : ∀ k a w, I k a w → c.wpIn F n P (Exit.then (fun a' w' => ∃ k', k' < k ∧ I k' a' w') Q) a w) : (Code.loop c).wpIn F n P Q a w := by
  have key : ∀ k a w, I k a w → ∃ m, I m a w ∧ ∀ j, I j a w → m ≤ j := by
    intro k
    induction k using Nat.strongRecOn with
    | _ k ih =>
      intro a w h
      by_cases hex : ∃ j, j < k ∧ I j a w
      · obtain ⟨j, hj, hi⟩ := hex
        exact ih j hj a w hi
      · refine ⟨k, h, fun j hj => ?_⟩
        rcases Nat.lt_or_ge j k with hlt | hge
        · exact absurd ⟨j, hlt, hj⟩ hex
        · exact hge
  let μ : Act → World → Nat := fun a w => @Classical.epsilon Nat ⟨0⟩ fun m => I m a w ∧ ∀ j, I j a w → m ≤ j
  have hμ : ∀ k a w, I k a w → I (μ a w) a w ∧ ∀ j, I j a w → μ a w ≤ j := fun k a w h => @Classical.epsilon_spec Nat (fun m => I m a w ∧ ∀ j, I j a w → m ≤ j) (key k a w h)
  refine wpIn_loop (fun a w => ∃ k, I k a w) μ ⟨k, h₀⟩ ?_
  rintro a w ⟨k, hk⟩
  have h1 := (hμ k a w hk).1
  refine wpIn_mono (round _ a w h1) ?_
  rintro e a' w' h
  cases e with
  | normal =>
    obtain ⟨k', hlt, hi⟩ := h
    exact ⟨⟨k', hi⟩, Nat.lt_of_le_of_lt ((hμ k' a' w' hi).2 k' hi) hlt⟩
  | _ => exact h

section
variable {P : Program} {te : Nat → Option TI} {B N : Nat} {ds : List Deferred}

theorem vc_ok (hte : TEok P te) (hmx : P.follows .mixedOrders = true) {ro : Option Nat} {n : Nat} : ∀ (c : Code) (σ : Slots) (H : Heap) (Q : Post) (ρ : Env) (a : Act) (w : World), codeOk N c = true → Fits B N ds ρ σ H a w → VC P te c σ H Q →
    c.wpIn (FW ro) n P (QC B N ds ρ H w Q) a w := by
  intro c
  induction c with
  | skip => intro σ H Q ρ a w _ hf hv; exact wpIn_skip ⟨ρ, σ, H, Step.refl _ _ _, hf, hv⟩
  | label l => intro σ H Q ρ a w _ hf hv; exact wpIn_label ⟨ρ, σ, H, Step.refl _ _ _, hf, hv⟩
  | exit id => intro σ H Q ρ a w _ hf hv; exact wpIn_exit ⟨ρ, σ, H, Step.refl _ _ _, hf, hv⟩
  | ret => intro σ H Q ρ a w _ hf hv; exact wpIn_ret ⟨ρ, σ, H, Step.refl _ _ _, hf, hv⟩
  | region id ops d =>
    intro σ H Q ρ a w hok hf hv
    cases d with
    | false =>
      refine wpIn_region ?_
      have := vops_ok (n := n) (ro := ro) hte hok ops.toList 0 rfl σ H ρ a w hf hv (Q := QC B N ds ρ H w Q) (fun σ' H' ρ' a' w' h1 h2 h3 => ⟨ρ', σ', H', h2, h1, h3⟩)
      simpa using this
    | true => exact vd_ok hte hmx hok hv.1 hf hv.2
  | seq x y ihx ihy =>
    intro σ H Q ρ a w hok hf hv
    simp only [codeOk, Bool.and_eq_true] at hok
    refine wpIn_seq (wpIn_mono (ihx σ H _ ρ a w hok.1 hf hv) ?_)
    rintro e a' w' ⟨ρ', σ', H', h1, h2, h3⟩
    cases e with
    | normal =>
      obtain ⟨σ1, H1, hw, hv⟩ := h3
      obtain ⟨ρ1, g1, g2⟩ := hw _ _ _ _ _ _ h2
      exact wpIn_mono (ihy σ1 H1 Q ρ1 a' w' hok.2 g2 hv) fun _ _ _ h => h.step (h1.trans g1)
    | _ => exact ⟨ρ', σ', H', h1, h2, h3⟩
  | cond c x y ihx ihy =>
    intro σ H Q ρ a w hok hf hv
    simp only [codeOk, Bool.and_eq_true] at hok
    simp only [VC] at hv
    split at hv
    · rename_i b he
      have := hf.ev hok.1.1
      rw [he] at this
      refine wpIn_cond this.1 ?_
      cases b
      · simp only [Bool.false_eq_true, if_false] at hv ⊢; exact ihy σ H Q ρ a w hok.2 hf hv
      · simp only [if_true] at hv ⊢; exact ihx σ H Q ρ a w hok.1.2 hf hv
    · exact hv.elim
  | block id c ih =>
    intro σ H Q ρ a w hok hf hv
    refine wpIn_block (wpIn_mono (ih σ H _ ρ a w hok hf hv) ?_)
    rintro e a' w' ⟨ρ', σ', H', h1, h2, h3⟩
    cases e with
    | exit i =>
      simp only [PBlock] at h3
      simp only [Exit.inBlock]
      split
      · rename_i e; simp only [e, if_true] at h3; exact ⟨ρ', σ', H', h1, h2, h3⟩
      · rename_i e; simp only [e, if_false] at h3; exact ⟨ρ', σ', H', h1, h2, h3⟩
    | _ => exact ⟨ρ', σ', H', h1, h2, h3⟩
  | loop c ih =>
    intro σ H Q ρ a w hok hf hv
    obtain ⟨I, k, h0, hr⟩ := hv
    refine wpIn_loop_k (fun k a' w' => ∃ ρ' σ' H', Step ρ H w ρ' H' w' ∧ Fits B N ds ρ' σ' H' a' w' ∧ I k σ' H') (k := k) ⟨ρ, σ, H, Step.refl _ _ _, hf, h0⟩ ?_
    rintro k a' w' ⟨ρ', σ', H', h1, h2, h3⟩
    refine wpIn_mono (ih σ' H' _ ρ' a' w' hok h2 (hr k σ' H' h3)) ?_
    rintro e a'' w'' ⟨ρ'', σ'', H'', h4, h5, h6⟩
    cases e with
    | normal =>
      obtain ⟨k', hlt, hi⟩ := h6
      exact ⟨k', hlt, ρ'', σ'', H'', h1.trans h4, h5, hi⟩
    | _ => exact ⟨ρ'', σ'', H'', h1.trans h4, h5, h6⟩
  | _ => intro σ H Q ρ a w _ _ hv; exact hv.elim

/-! ### From a body to a contract -/
def aresults (te : Nat → Option TI) (σ : Slots) (H : Heap) : List ResultVar → Option (List Cmp)
  | [] => some []
  | .tmp t :: rs =>
    match (σ t).cmp, aresults te σ H rs with
    | some c, some cs => some (c :: cs)
    | _, _ => none
  | .cell p t :: rs =>
    match σ p with
    | .s (.ptr b off) =>
      match (aload te H t b off).bind AV.cmp, aresults te σ H rs with
      | some c, some cs => some (c :: cs)
      | _, _ => none
    | _ => none

def aresult (te : Nat → Option TI) (σ : Slots) (H : Heap) (rs : Array ResultVar) : Option AV :=
  match aresults te σ H rs.toList with
  | some [c] => some c.av
  | some cs => some (.tup cs)
  | none => none

def resOk (N : Nat) : ResultVar → Bool
  | .tmp t => t < N
  | .cell p _ => p < N

/-- the slots at the start: the parameters; of the others nothing is known -/
def argSlots : List Cmp → Nat → AV
  | [], _ => .any
  | c :: _, 0 => c.av
  | _ :: cs, t + 1 => argSlots cs t

def PRet (te : Nat → Option TI) (rs : Array ResultVar) (K : AV → Heap → Prop) : Post
  | .ret, σ, H => ∃ r, aresult te σ H rs = some r ∧ K r H
  | .normal, σ, H => ∃ r, aresult te σ H rs = some r ∧ K r H
  | _, _, _ => False

def resSem (tmps : Array Value) : ResultVar → Sem Value
  | .tmp t => pure (tmps.getD t undef)
  | .cell p t => do loadVar t (← asAddr (tmps.getD p undef))

theorem results_eq (fn : Func) (tmps : Array Value) : results fn tmps = (do
    let vs ← fn.results.mapM (resSem tmps)
    pure (if h : vs.size = 1 then vs[0] else .tuple vs)) := by
  unfold results
  congr 1

theorem aresults_ok {ρ : Env} {σ : Slots} {H : Heap} {a : Act} {w : World} (hte : TEok P te) (hf : Fits B N ds ρ σ H a w) : ∀ (rs : List ResultVar) (cs : List Cmp), rs.all (resOk N) = true → aresults te σ H rs = some cs →
    ∃ vs : List Value, (rs.mapM (m := Sem) (resSem a.tmps)).run P w = .ok vs w ∧ Al2 (CC ρ) cs vs
  | [], cs, _, h => by simp [aresults] at h; subst h; exact ⟨[], by simp, trivial⟩
  | .tmp t :: rs, cs, hok, h => by
    simp only [List.all_cons, Bool.and_eq_true] at hok
    simp only [aresults] at h
    split at h
    · rename_i c cs' h1 h2
      injection h with h; subst h
      obtain ⟨vs, h3, h4⟩ := aresults_ok hte hf rs cs' hok.2 h2
      have hlt : t < N := by simpa [resOk] using hok.1
      have hv := hf.2.1 t (by rw [hf.2.2.1]; exact hlt)
      refine ⟨a.tmps.getD t undef :: vs, ?_, ?_, h4⟩
      · simp only [List.mapM_cons, Sem.run_bind, resSem, Sem.run_pure, Result.andThen_ok, h3]
      · unfold AV.cmp at h1
        split at h1
        · rename_i he; injection h1 with h1; subst h1; rw [he] at hv; exact hv
        · rename_i he; injection h1 with h1; subst h1; rw [he] at hv; exact hv
        · cases h1
    · cases h
  | .cell p t :: rs, cs, hok, h => by
    simp only [List.all_cons, Bool.and_eq_true] at hok
    simp only [aresults] at h
    split at h
    · rename_i b off he
      split at h
      · rename_i c cs' h1 h2
        injection h with h; subst h
        obtain ⟨vs, h3, h4⟩ := aresults_ok hte hf rs cs' hok.2 h2
        have hlt : p < N := by simpa [resOk] using hok.1
        have hv := hf.2.1 p (by rw [hf.2.2.1]; exact hlt)
        rw [he] at hv
        rw [Option.bind_eq_some_iff] at h1
        obtain ⟨av, h5, h6⟩ := h1
        obtain ⟨xb, hxb⟩ := aload_live h5
        obtain ⟨cb, co, cc, hat, hpv⟩ := ptr_at hf.1 hv hxb
        obtain ⟨cv, h7, h8⟩ := aload_ok hte h5 hf.1 hat
        refine ⟨cv :: vs, ?_, ?_, h4⟩
        · have e : (resSem a.tmps (.cell p t)).run P w = .ok cv w := by simp only [resSem, hpv, asAddr, Sem.run_bind, Sem.run_pure, Result.andThen_ok, h7]
          simp only [List.mapM_cons, Sem.run_bind, e, Sem.run_pure, Result.andThen_ok, h3]
        · unfold AV.cmp at h6
          split at h6
          · injection h6 with h6; subst h6; exact h8
          · injection h6 with h6; subst h6; exact h8
          · cases h6
      · cases h
    · cases h

theorem argSlots_ok {ρ : Env} : ∀ {cs : List Cmp} {vs : List Value} (t : Nat), Al2 (CC ρ) cs vs → CA ρ (argSlots cs t) (vs.getD t undef)
  | [], [], _, _ => trivial
  | c :: cs, v :: vs, 0, h => h.1.av
  | c :: cs, v :: vs, t + 1, h => by simpa [argSlots] using argSlots_ok (cs := cs) (vs := vs) t h.2
  | [], _ :: _, _, h => h.elim
  | _ :: _, [], _, h => h.elim

/-- **A contract out of a body's conditions.** -/
theorem acalls_of (hte : TEok P te) (hmx : P.follows .mixedOrders = true) {f : FuncId} {fn : Func} {c : Code} (hfn : P.funcs[f]? = some fn) (hb : fn.body = some c)
    (hent : ∀ args w, (callFunc f args).run P w = .ok (.enter f args) w) (hok : codeOk fn.ntmps c = true) (hrs : fn.results.toList.all (resOk fn.ntmps) = true)
    {args : List Cmp} (hlen : Nat.ble args.length fn.ntmps = true) {H : Heap} {R : AV → Heap → Prop} (h : VC P te c (argSlots args) H (PRet te fn.results R)) : ACallsR P f args H R := by
  refine ⟨hent, fun B ρ w cargs hr hargs => ?_⟩
  refine (callsIn_wide (n := 0)).1 (callsIn_of_wp hfn hb trivial ?_)
  have hl : cargs.length = args.length := hargs.length.symm
  have hlen := Nat.le_of_ble_eq_true hlen
  have hfit : Fits B fn.ntmps [] ρ (argSlots args) H { tmps := cargs.toArray ++ Array.replicate (fn.ntmps - cargs.toArray.size) undef, defers := [] } w := by
    refine ⟨hr, ?_, by simp; omega, rfl⟩
    intro t ht
    by_cases hlt : t < cargs.length
    · have := argSlots_ok (ρ := ρ) t hargs
      have e : (cargs.toArray ++ Array.replicate (fn.ntmps - cargs.toArray.size) undef).getD t undef = cargs.getD t undef := by
        simp [Array.getD, Array.getElem_append, hlt]
        intro h; omega
      rw [e]; exact this
    · have : argSlots args t = .any := by
        have : ∀ (cs : List Cmp) (t : Nat), cs.length ≤ t → argSlots cs t = .any := by
          intro cs
          induction cs with
          | nil => intro t _; rfl
          | cons c cs ih => intro t ht; cases t with
            | zero => simp at ht
            | succ t => exact ih t (by simpa using ht)
        exact this args t (by omega)
      rw [this]; trivial
  refine wpIn_mono (vc_ok (ro := none) hte hmx c _ H _ ρ _ w hok hfit h) ?_
  rintro e a' w' ⟨ρ', σ', H1, h1, h2, h3⟩
  have fin : ∀ r1, aresult te σ' H1 fn.results = some r1 → R r1 H1 → ∃ v, (results fn a'.tmps).run P w' = .ok v w' ∧ ∃ rv ρ' r H', Ending.returned v = .returned rv ∧ CA ρ' r rv ∧ Rel B ρ' H' w' ∧ Step ρ H w ρ' H' w' ∧ R r H' := by
    rintro r1 h4 hR
    unfold aresult at h4
    have key : ∀ cs, aresults te σ' H1 fn.results.toList = some cs → (match cs with | [c] => r1 = c.av | cs => r1 = .tup cs) → ∃ v, (results fn a'.tmps).run P w' = .ok v w' ∧ CA ρ' r1 v := by
      intro cs hcs hm
      obtain ⟨vs, h5, h6⟩ := aresults_ok hte h2 _ _ hrs hcs
      have hrun : (results fn a'.tmps).run P w' = .ok (if h : vs.toArray.size = 1 then vs.toArray[0] else .tuple vs.toArray) w' := by
        rw [results_eq, Array.mapM_eq_mapM_toList]
        simp only [Sem.run_bind, Sem.run_map]
        rw [h5]
        simp
      refine ⟨_, hrun, ?_⟩
      match cs, vs, h6, hm with
      | [], [], _, hm => subst hm; exact ⟨[], trivial, rfl⟩
      | [c], [v], h6, hm => subst hm; exact h6.1.av
      | c1 :: c2 :: cs, v1 :: v2 :: vs, h6, hm => subst hm; exact ⟨v1 :: v2 :: vs, h6, by simp⟩
      | [_], [], h6, _ => exact h6.elim
      | [_], _ :: _ :: _, h6, _ => exact h6.2.elim
      | [], _ :: _, h6, _ => exact h6.elim
      | _ :: _ :: _, [], h6, _ => exact h6.elim
      | _ :: _ :: _, [_], h6, _ => exact h6.2.elim
    split at h4
    · rename_i c' hcs
      injection h4 with h4
      obtain ⟨v, h7, h8⟩ := key [c'] hcs h4.symm
      exact ⟨v, h7, v, ρ', r1, H1, rfl, h8, h2.1, h1, hR⟩
    · rename_i cs hne hcs
      injection h4 with h4
      obtain ⟨v, h7, h8⟩ := key cs hcs (by
        split
        · rename_i c'; exact absurd rfl (hne c')
        · exact h4.symm)
      exact ⟨v, h7, v, ρ', r1, H1, rfl, h8, h2.1, h1, hR⟩
    · cases h4
  cases e with
  | normal => obtain ⟨r1, h4, h5⟩ := h3; exact ⟨h2.2.2.2, fin r1 h4 h5⟩
  | ret => obtain ⟨r1, h4, h5⟩ := h3; exact ⟨h2.2.2.2, fin r1 h4 h5⟩
  | _ => exact h3.elim
end

end Go.Abs
