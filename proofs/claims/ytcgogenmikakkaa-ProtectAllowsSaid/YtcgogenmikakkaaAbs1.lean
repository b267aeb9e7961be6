/-
  The abstract heap: values with abstract block numbers, what they stand for in a world, and how a world may go on.
-/
import Derived.OrdersIn
import Derived.Below
import Derived.TacticsIn
namespace Go.Abs
set_option linter.unusedVariables false
set_option linter.unusedSimpArgs false
open Go.RowKit

/-- Two lists, element by element. -/
def Al2 {α β : Type} (R : α → β → Prop) : List α → List β → Prop
  | [], [] => True
  | x :: xs, y :: ys => R x y ∧ Al2 R xs ys
  | _, _ => False

theorem Al2.mono {α β : Type} {R R' : α → β → Prop} (h : ∀ x y, R x y → R' x y) : ∀ {xs : List α} {ys : List β}, Al2 R xs ys → Al2 R' xs ys
  | [], [], _ => trivial
  | x :: xs, y :: ys, hh => ⟨h _ _ hh.1, Al2.mono h hh.2⟩
  | [], _ :: _, hh => hh.elim
  | _ :: _, [], hh => hh.elim

theorem Al2.length {α β : Type} {R : α → β → Prop} : ∀ {xs : List α} {ys : List β}, Al2 R xs ys → xs.length = ys.length
  | [], [], _ => rfl
  | _ :: _, _ :: _, hh => by simp [Al2.length hh.2]
  | [], _ :: _, hh => hh.elim
  | _ :: _, [], hh => hh.elim

theorem Al2.get {α β : Type} {R : α → β → Prop} : ∀ {xs : List α} {ys : List β}, Al2 R xs ys → ∀ {i : Nat} {x : α}, xs[i]? = some x → ∃ y, ys[i]? = some y ∧ R x y
  | [], [], _, i, x, h => by simp at h
  | a :: xs, b :: ys, hh, 0, x, h => by simp at h; subst h; exact ⟨b, rfl, hh.1⟩
  | a :: xs, b :: ys, hh, i + 1, x, h => by simp at h; simpa using Al2.get hh.2 h
  | [], _ :: _, hh, _, _, _ => hh.elim
  | _ :: _, [], hh, _, _, _ => hh.elim

theorem Al2.of_get {α β : Type} {R : α → β → Prop} : ∀ {xs : List α} {ys : List β}, xs.length = ys.length → (∀ (i : Nat) (x : α), xs[i]? = some x → ∃ y, ys[i]? = some y ∧ R x y) → Al2 R xs ys
  | [], [], _, _ => trivial
  | x :: xs, y :: ys, hl, h => by
    refine ⟨?_, Al2.of_get (by simpa using hl) fun i z hz => ?_⟩
    · obtain ⟨y', hy, hr⟩ := h 0 x (by simp)
      simp at hy; subst hy; exact hr
    · obtain ⟨y', hy, hr⟩ := h (i + 1) z (by simpa using hz)
      exact ⟨y', by simpa using hy, hr⟩
  | [], _ :: _, hl, _ => by simp at hl
  | _ :: _, [], hl, _ => by simp at hl

theorem Al2.append {α β : Type} {R : α → β → Prop} : ∀ {xs : List α} {ys : List β} {xs' : List α} {ys' : List β}, Al2 R xs ys → Al2 R xs' ys' → Al2 R (xs ++ xs') (ys ++ ys')
  | [], [], _, _, _, h => by simpa using h
  | _ :: _, _ :: _, _, _, h1, h2 => ⟨h1.1, Al2.append h1.2 h2⟩
  | [], _ :: _, _, _, h, _ => h.elim
  | _ :: _, [], _, _, h, _ => h.elim

/-! ### Values -/
inductive SV where
  | raw (v : Value)
  | sl (b off len : Nat) (gr : Bool)
  | ptr (b off : Nat)
  | fn (f : FuncId) (caps : List (Nat × Nat))
  /-- a slice, or nil, of cells that do not change any more -/
  | vs (n : Nat) (cells : List SV)
  /-- a place of cells that do not change any more -/
  | vp (cells : List SV)
  /-- a slice of no element that is not nil -/
  | ve

inductive Cmp where
  | s (x : SV)
  | agg (xs : List SV)

inductive AV where
  | s (x : SV)
  | agg (xs : List SV)
  | tup (xs : List Cmp)
  | any

def Cmp.av : Cmp → AV
  | .s x => .s x
  | .agg xs => .agg xs

inductive Loc where
  | absent | dead
  | at_ (b o cap : Nat)

/-- where blocks lie; and memory that does not change any more -/
structure Env where
  loc : Nat → Loc
  mem : Nat → Nat → Option Value
instance : CoeFun Env (fun _ => Nat → Loc) := ⟨Env.loc⟩

def scal : Value → Bool
  | .agg _ => false
  | .tuple _ => false
  | _ => true

def PC (ρ : Env) (b off : Nat) (v : Value) : Prop :=
  match ρ b with
  | .absent => False
  | .dead => scal v = true
  | .at_ cb co _ => v = .pointer (some ⟨cb, co + off, none⟩)

def LC (ρ : Env) (b off len : Nat) (gr : Bool) (v : Value) : Prop :=
  match ρ b with
  | .absent => False
  | .dead => scal v = true
  | .at_ cb co cc =>
    match gr with
    | true => off = 0 ∧ len ≤ cc ∧ v = .slice (some ⟨cb, co, none⟩) len cc
    | false => ∃ c o, len ≤ c ∧ (len ≠ 0 → o = co + off) ∧ v = .slice (some ⟨cb, o, none⟩) len c

/-- what does not hang on a block of the heap -/
def pers : SV → Bool
  | .raw _ | .vs _ _ | .vp _ | .ve => true
  | _ => false

mutual
def CS (ρ : Env) : SV → Value → Prop
  | .raw v, cv => cv = v ∧ scal v = true
  | .ptr b off, cv => PC ρ b off cv
  | .sl b off len gr, cv => LC ρ b off len gr cv
  | .fn f caps, cv => ∃ vs : List Value, Al2 (fun p v => PC ρ p.1 p.2 v) caps vs ∧ cv = .func (.func f) #[] vs.toArray
  | .vs n cells, cv => ∃ a c cb co, cv = .slice a n c ∧ n ≤ c ∧ (n ≠ 0 → a = some ⟨cb, co, none⟩) ∧ (a = none → c = 0) ∧ MS ρ cb co cells
  | .vp cells, cv => ∃ cb co, cv = .pointer (some ⟨cb, co, none⟩) ∧ MS ρ cb co cells
  | .ve, cv => ∃ a c, cv = .slice (some a) 0 c
def MS (ρ : Env) (cb : Nat) : Nat → List SV → Prop
  | _, [] => True
  | co, sv :: svs => (∃ v, ρ.mem cb co = some v ∧ CS ρ sv v) ∧ pers sv = true ∧ MS ρ cb (co + 1) svs
end

def CC (ρ : Env) : Cmp → Value → Prop
  | .s x, v => CS ρ x v
  | .agg xs, v => ∃ vs : List Value, Al2 (CS ρ) xs vs ∧ v = .agg vs.toArray

def CA (ρ : Env) : AV → Value → Prop
  | .s x, v => CS ρ x v
  | .agg xs, v => ∃ vs : List Value, Al2 (CS ρ) xs vs ∧ v = .agg vs.toArray
  | .tup cs, v => ∃ vs : List Value, Al2 (CC ρ) cs vs ∧ v = .tuple vs.toArray
  | .any, _ => True

theorem CC.av {ρ : Env} {c : Cmp} {v : Value} (h : CC ρ c v) : CA ρ c.av v := by cases c <;> exact h
theorem CC.of_av {ρ : Env} {c : Cmp} {v : Value} (h : CA ρ c.av v) : CC ρ c v := by cases c <;> exact h

theorem PC.scal {ρ : Env} {b off : Nat} {v : Value} (h : PC ρ b off v) : scal v = true := by
  unfold PC at h
  split at h
  · exact h.elim
  · exact h
  · subst h; rfl

theorem CS.scal {ρ : Env} {x : SV} {v : Value} (h : CS ρ x v) : scal v = true := by
  cases x with
  | raw u => simp only [CS] at h; obtain ⟨rfl, h⟩ := h; exact h
  | ptr b off => simp only [CS] at h; exact PC.scal h
  | sl b off len cap =>
    simp only [CS, LC] at h
    split at h
    · exact h.elim
    · exact h
    · split at h
      · obtain ⟨_, _, rfl⟩ := h; rfl
      · obtain ⟨_, _, _, _, rfl⟩ := h; rfl
  | fn f caps => simp only [CS] at h; obtain ⟨_, _, rfl⟩ := h; rfl
  | vs n cells => simp only [CS] at h; obtain ⟨_, _, _, _, rfl, _⟩ := h; rfl
  | vp cells => simp only [CS] at h; obtain ⟨_, _, rfl, _⟩ := h; rfl
  | ve => simp only [CS] at h; obtain ⟨_, _, rfl⟩ := h; rfl

theorem cells_scal {v : Value} (h : scal v = true) : v.cells = #[v] := by
  cases v <;> first | rfl | simp [Abs.scal] at h

/-! ### How locations go on -/
structure Le (ρ ρ' : Env) : Prop where
  loc : ∀ b, ρ b = .absent ∨ ρ' b = ρ b ∨ ρ' b = .dead
  mem : ∀ cb j v, ρ.mem cb j = some v → ρ'.mem cb j = some v
instance {ρ ρ' : Env} : CoeFun (Le ρ ρ') (fun _ => ∀ b, ρ b = .absent ∨ ρ' b = ρ b ∨ ρ' b = .dead) := ⟨Le.loc⟩

theorem Le.refl (ρ : Env) : Le ρ ρ := ⟨fun _ => .inr (.inl rfl), fun _ _ _ h => h⟩
theorem Le.trans {a b c : Env} (h : Le a b) (k : Le b c) : Le a c := ⟨fun x => by
  rcases h x with h1 | h1 | h1
  · exact .inl h1
  · rcases k x with k1 | k1 | k1
    · rw [h1] at k1; exact .inl k1
    · exact .inr (.inl (k1.trans h1))
    · exact .inr (.inr k1)
  · rcases k x with k1 | k1 | k1
    · rw [h1] at k1; cases k1
    · exact .inr (.inr (k1.trans h1))
    · exact .inr (.inr k1), fun cb j v hv => k.mem cb j v (h.mem cb j v hv)⟩

theorem PC.mono {ρ ρ' : Env} (h : Le ρ ρ') {b off : Nat} {v : Value} (hv : PC ρ b off v) : PC ρ' b off v := by
  have hs := PC.scal hv
  rcases h b with h1 | h1 | h1
  · simp [PC, h1] at hv
  · simp only [PC, h1] at hv ⊢; exact hv
  · simp only [PC, h1]; exact hs

/-- cells that do not change any more stay so -/
theorem pers_mono {ρ ρ' : Env} (h : ∀ cb j v, ρ.mem cb j = some v → ρ'.mem cb j = some v) : ∀ {x : SV} {v : Value}, pers x = true → CS ρ x v → CS ρ' x v := by
  have key : ∀ x : SV, ∀ v : Value, pers x = true → CS ρ x v → CS ρ' x v := by
    refine SV.rec (motive_1 := fun x => ∀ v : Value, pers x = true → CS ρ x v → CS ρ' x v) (motive_2 := fun l => ∀ cb co, MS ρ cb co l → MS ρ' cb co l) ?_ ?_ ?_ ?_ ?_ ?_ ?_ ?_ ?_
    · intro u v _ hv; simp only [CS] at hv ⊢; exact hv
    · intro b off len gr v hp; cases hp
    · intro b off v hp; cases hp
    · intro f caps v hp; cases hp
    · intro n cells ih v _ hv
      simp only [CS] at hv ⊢
      obtain ⟨a, c, cb, co, h1, h2, h3, h5, h4⟩ := hv
      exact ⟨a, c, cb, co, h1, h2, h3, h5, ih cb co h4⟩
    · intro cells ih v _ hv
      simp only [CS] at hv ⊢
      obtain ⟨cb, co, h1, h4⟩ := hv
      exact ⟨cb, co, h1, ih cb co h4⟩
    · intro v _ hv; simp only [CS] at hv ⊢; exact hv
    · intro cb co hm; simp only [MS]
    · intro sv svs ih1 ih2 cb co hm
      simp only [MS] at hm ⊢
      obtain ⟨⟨v, h1, h2⟩, h3, h4⟩ := hm
      exact ⟨⟨v, h _ _ _ h1, ih1 v h3 h2⟩, h3, ih2 _ _ h4⟩
  intro x v hp hv; exact key x v hp hv

theorem MS_mono {ρ ρ' : Env} (h : ∀ cb j v, ρ.mem cb j = some v → ρ'.mem cb j = some v) : ∀ {l : List SV} {cb co : Nat}, MS ρ cb co l → MS ρ' cb co l
  | [], _, _, _ => by simp only [MS]
  | sv :: svs, cb, co, hm => by
    simp only [MS] at hm ⊢
    obtain ⟨⟨v, h1, h2⟩, h3, h4⟩ := hm
    exact ⟨⟨v, h _ _ _ h1, pers_mono h h3 h2⟩, h3, MS_mono h h4⟩

theorem MS_get {ρ : Env} : ∀ {l : List SV} {cb co : Nat}, MS ρ cb co l → ∀ {j : Nat} {sv : SV}, l[j]? = some sv → ∃ v, ρ.mem cb (co + j) = some v ∧ CS ρ sv v ∧ pers sv = true
  | [], _, _, _, j, sv, hj => by simp at hj
  | x :: l, cb, co, hm, j, sv, hj => by
    simp only [MS] at hm
    cases j with
    | zero =>
      simp at hj; subst hj
      obtain ⟨⟨v, h1, h2⟩, h3, _⟩ := hm
      exact ⟨v, h1, h2, h3⟩
    | succ j =>
      obtain ⟨v, h1, h2, h3⟩ := MS_get hm.2.2 (j := j) (by simpa using hj)
      exact ⟨v, by rw [show co + (j + 1) = co + 1 + j by omega]; exact h1, h2, h3⟩

theorem MS_of {ρ : Env} : ∀ {l : List SV} {cb co : Nat}, (∀ (j : Nat) (sv : SV), l[j]? = some sv → ∃ v, ρ.mem cb (co + j) = some v ∧ CS ρ sv v ∧ pers sv = true) → MS ρ cb co l
  | [], _, _, _ => by simp only [MS]
  | x :: l, cb, co, h => by
    simp only [MS]
    obtain ⟨v, h1, h2, h3⟩ := h 0 x rfl
    refine ⟨⟨v, h1, h2⟩, h3, MS_of fun j sv hj => ?_⟩
    obtain ⟨v, h1, h2, h3⟩ := h (j + 1) sv (by simpa using hj)
    exact ⟨v, by rw [show co + 1 + j = co + (j + 1) by omega]; exact h1, h2, h3⟩

theorem MS_drop {ρ : Env} {l : List SV} {cb co : Nat} (h : MS ρ cb co l) (k : Nat) : MS ρ cb (co + k) (l.drop k) := MS_of fun j sv hj => by
  rw [List.getElem?_drop] at hj
  rw [Nat.add_assoc]; exact MS_get h hj
theorem MS_take {ρ : Env} {l : List SV} {cb co : Nat} (h : MS ρ cb co l) (k : Nat) : MS ρ cb co (l.take k) := MS_of fun j sv hj => by
  rw [List.getElem?_take] at hj
  split at hj
  · exact MS_get h hj
  · cases hj

theorem CS.mono {ρ ρ' : Env} (h : Le ρ ρ') {x : SV} {v : Value} (hv : CS ρ x v) : CS ρ' x v := by
  have hs := CS.scal hv
  cases x with
  | raw u => exact pers_mono h.mem rfl hv
  | ptr b off => simp only [CS] at hv ⊢; exact PC.mono h hv
  | sl b off len cap =>
    rcases h b with h1 | h1 | h1
    · simp [CS, LC, h1] at hv
    · simp only [CS, LC, h1] at hv ⊢; exact hv
    · simp only [CS, LC, h1]; exact hs
  | fn f caps => simp only [CS] at hv ⊢; obtain ⟨vs, h1, h2⟩ := hv; exact ⟨vs, h1.mono fun _ _ => PC.mono h, h2⟩
  | vs n cells => exact pers_mono h.mem rfl hv
  | vp cells => exact pers_mono h.mem rfl hv
  | ve => exact pers_mono h.mem rfl hv

theorem CC.mono {ρ ρ' : Env} (h : Le ρ ρ') {x : Cmp} {v : Value} (hv : CC ρ x v) : CC ρ' x v := by
  cases x with
  | s x => exact CS.mono h hv
  | agg xs => obtain ⟨vs, h1, h2⟩ := hv; exact ⟨vs, h1.mono fun _ _ => CS.mono h, h2⟩

theorem CA.mono {ρ ρ' : Env} (h : Le ρ ρ') {x : AV} {v : Value} (hv : CA ρ x v) : CA ρ' x v := by
  cases x with
  | s x => exact CS.mono h hv
  | agg xs => obtain ⟨vs, h1, h2⟩ := hv; exact ⟨vs, h1.mono fun _ _ => CS.mono h, h2⟩
  | tup xs => obtain ⟨vs, h1, h2⟩ := hv; exact ⟨vs, h1.mono fun _ _ => CC.mono h, h2⟩
  | any => trivial

/-! ### The heap -/
structure Blk where
  cells : List SV
  esz : Nat := 0
  wr : Bool := true

structure Heap where
  m : Nat → Option Blk
  n : Nat

def Heap.set (H : Heap) (b : Nat) (x : Option Blk) : Heap := { H with m := fun k => if k = b then x else H.m k }
def Heap.push (H : Heap) (x : Blk) : Heap := { m := fun k => if k = H.n then some x else H.m k, n := H.n + 1 }

@[simp] theorem Heap.push_n (H : Heap) (x : Blk) : (H.push x).n = H.n + 1 := rfl
@[simp] theorem Heap.set_n (H : Heap) (b : Nat) (x : Option Blk) : (H.set b x).n = H.n := rfl
@[simp] theorem Heap.push_same (H : Heap) (x : Blk) : (H.push x).m H.n = some x := by simp [Heap.push]
theorem Heap.push_ne (H : Heap) (x : Blk) {k : Nat} (h : k ≠ H.n) : (H.push x).m k = H.m k := by simp [Heap.push, h]
@[simp] theorem Heap.set_same (H : Heap) (b : Nat) (x : Option Blk) : (H.set b x).m b = x := by simp [Heap.set]
theorem Heap.set_ne (H : Heap) (b : Nat) (x : Option Blk) {k : Nat} (h : k ≠ b) : (H.set b x).m k = H.m k := by simp [Heap.set, h]

/-- What an abstract block says of a concrete one. -/
def BlkC (B : Nat) (ρ : Env) (w : World) (cb co cc : Nat) (x : Blk) : Prop :=
  ∃ (C : Array Value) (T : TypeId) (fz : Nat × Nat), w.heap[cb]? = some (.cells C T fz) ∧
    (∀ (j : Nat) (sv : SV), x.cells[j]? = some sv → ∃ v, C[co + j]? = some v ∧ CS ρ sv v) ∧
    (x.wr = true → fz = (0, 0) ∧ B ≤ cb) ∧ (x.esz ≠ 0 → co + cc * x.esz ≤ C.size)

structure Rel0 (B : Nat) (ρ : Env) (H : Heap) (w : World) : Prop where
  hB : B ≤ w.heap.size
  fresh : ∀ b, H.n ≤ b → ρ b = .absent
  live : ∀ b x, H.m b = some x → ρ b ≠ .dead
  blk : ∀ b cb co cc x, ρ b = .at_ cb co cc → H.m b = some x → BlkC B ρ w cb co cc x
  sep : ∀ b b' cb co cc co' cc' x x', b ≠ b' → ρ b = .at_ cb co cc → ρ b' = .at_ cb co' cc' → H.m b = some x → H.m b' = some x' → x.wr = false ∧ x'.wr = false

def Own (ρ : Env) (H : Heap) (k : Nat) : Prop := ∃ b co cc x, ρ b = .at_ k co cc ∧ H.m b = some x ∧ x.wr = true

structure Rel (B : Nat) (ρ : Env) (H : Heap) (w : World) : Prop extends Rel0 B ρ H w where
  imm : ∀ cb j v, ρ.mem cb j = some v → w.cell? ⟨cb, j, none⟩ = some v ∧ ¬ Own ρ H cb

structure Step (ρ : Env) (H : Heap) (w : World) (ρ' : Env) (H' : Heap) (w' : World) : Prop where
  os : w'.os = w.os
  tape : w'.tape = w.tape
  output : w'.output = w.output
  size : w.heap.size ≤ w'.heap.size
  keep : ∀ k, k < w.heap.size → ¬ Own ρ H k → w'.heap[k]? = w.heap[k]?
  own : ∀ k, Own ρ' H' k → Own ρ H k ∨ w.heap.size ≤ k
  le : Le ρ ρ'
  new : ∀ b cb co cc, ρ b = .absent → ρ' b = .at_ cb co cc → Own ρ H cb ∨ w.heap.size ≤ cb
  n : H.n ≤ H'.n
  abs : ∀ b, b < H.n → ρ b = .absent → ρ' b = .absent
  memn : ∀ cb j v, ρ'.mem cb j = some v → ρ.mem cb j = some v ∨ Own ρ H cb ∨ w.heap.size ≤ cb

theorem Step.refl (ρ : Env) (H : Heap) (w : World) : Step ρ H w ρ H w :=
  ⟨rfl, rfl, rfl, Nat.le_refl _, fun _ _ _ => rfl, fun _ h => .inl h, Le.refl _, fun b cb co cc h h' => (by rw [h] at h'; cases h'), Nat.le_refl _, fun _ _ h => h, fun _ _ _ h => .inl h⟩

theorem Step.trans {ρ ρ' ρ'' : Env} {H H' H'' : Heap} {w w' w'' : World} (h : Step ρ H w ρ' H' w') (k : Step ρ' H' w' ρ'' H'' w'') : Step ρ H w ρ'' H'' w'' := by
  have hs := h.size
  refine ⟨k.os.trans h.os, k.tape.trans h.tape, k.output.trans h.output, Nat.le_trans h.size k.size, ?_, ?_, h.le.trans k.le, ?_, Nat.le_trans h.n k.n, fun b hb ha => k.abs b (Nat.lt_of_lt_of_le hb h.n) (h.abs b hb ha), fun cb j v hv => ?_⟩
  · intro i hi ho
    refine (k.keep i (by omega) fun h' => ?_).trans (h.keep i hi ho)
    rcases h.own i h' with h1 | h1
    · exact ho h1
    · omega
  · intro i hi
    rcases k.own i hi with h1 | h1
    · exact h.own i h1
    · exact .inr (by omega)
  · intro b cb co cc h1 h2
    by_cases hb : ρ' b = .absent
    · rcases k.new b cb co cc hb h2 with h3 | h3
      · exact h.own _ h3
      · exact .inr (by omega)
    · rcases k.le b with h3 | h3 | h3
      · exact absurd h3 hb
      · rw [h3] at h2; exact h.new b cb co cc h1 h2
      · rw [h3] at h2; cases h2
  · rcases k.memn cb j v hv with h1 | h1 | h1
    · exact h.memn cb j v h1
    · exact .inr (h.own _ h1)
    · exact .inr (.inr (by omega))

theorem imm_lt {w : World} {cb j : Nat} {v : Value} (h : w.cell? ⟨cb, j, none⟩ = some v) : cb < w.heap.size := by
  rcases Nat.lt_or_ge cb w.heap.size with h1 | h1
  · exact h1
  · simp [World.cell?, Array.getElem?_eq_none h1] at h
theorem imm_step {ρ ρ' : Env} {H H' : Heap} {w w' : World} (hi : ∀ cb j v, ρ.mem cb j = some v → w.cell? ⟨cb, j, none⟩ = some v ∧ ¬ Own ρ H cb) (hs : Step ρ H w ρ' H' w') (cb j : Nat) (v : Value) (h : ρ.mem cb j = some v) :
    w'.cell? ⟨cb, j, none⟩ = some v ∧ ¬ Own ρ' H' cb := by
  obtain ⟨h1, h2⟩ := hi cb j v h
  have hl := imm_lt h1
  refine ⟨?_, fun ho => ?_⟩
  · have := hs.keep cb hl h2
    simp only [World.cell?, this] at h1 ⊢; exact h1
  · rcases hs.own cb ho with h3 | h3
    · exact h2 h3
    · omega
/-- what is known of the blocks, and a step that brought it about -/
theorem Rel0.rel {B : Nat} {ρ ρ' : Env} {H H' : Heap} {w w' : World} (h : Rel0 B ρ' H' w') (hr : Rel B ρ H w) (hs : Step ρ H w ρ' H' w') (hm : ρ'.mem = ρ.mem) : Rel B ρ' H' w' :=
  ⟨h, fun cb j v hv => imm_step hr.imm hs cb j v (by rw [← hm]; exact hv)⟩
theorem Rel.with {B : Nat} {ρ ρ' : Env} {H H' : Heap} {w w' : World} (hr : Rel B ρ H w) (h : Rel0 B ρ' H' w' ∧ Step ρ H w ρ' H' w') (hm : ρ'.mem = ρ.mem := by rfl) : Rel B ρ' H' w' ∧ Step ρ H w ρ' H' w' := ⟨h.1.rel hr h.2 hm, h.2⟩

theorem Step.below {B : Nat} {ρ ρ' : Env} {H H' : Heap} {w w' : World} (h : Step ρ H w ρ' H' w') (hr : Rel B ρ H w) : Below B w w' :=
  ⟨h.os, h.tape, h.output, h.size, fun k hk => h.keep k (by have := hr.hB; omega) fun ⟨b, co, cc, x, h1, h2, h3⟩ => by
    obtain ⟨_, _, _, _, _, hw, _⟩ := hr.blk b k co cc x h1 h2
    have := (hw h3).2
    omega⟩

/-- A draw. -/
theorem Rel.drew {B : Nat} {ρ : Env} {H : Heap} {w : World} (h : Rel B ρ H w) (d : Nat) : Rel B ρ H { w with drawn := d } :=
  ⟨⟨h.hB, h.fresh, h.live, h.blk, h.sep⟩, h.imm⟩
theorem Step.drew {ρ : Env} {H : Heap} {w : World} (d : Nat) : Step ρ H w ρ H { w with drawn := d } :=
  ⟨rfl, rfl, rfl, Nat.le_refl _, fun _ _ _ => rfl, fun _ h => .inl h, Le.refl _, fun b cb co cc h h' => (by rw [h] at h'; cases h'), Nat.le_refl _, fun _ _ h => h, fun _ _ _ h => .inl h⟩

/-- A block forgotten: more is not said of it. -/
theorem BlkC.mono {B : Nat} {ρ ρ' : Env} {w w' : World} {cb co cc : Nat} {x : Blk} (h : BlkC B ρ w cb co cc x) (hl : Le ρ ρ') (hw : w'.heap[cb]? = w.heap[cb]?) : BlkC B ρ' w' cb co cc x := by
  obtain ⟨C, T, fz, h1, h2, h3, h4⟩ := h
  exact ⟨C, T, fz, hw.trans h1, fun j sv hj => let ⟨v, h5, h6⟩ := h2 j sv hj; ⟨v, h5, h6.mono hl⟩, h3, h4⟩

end Go.Abs
