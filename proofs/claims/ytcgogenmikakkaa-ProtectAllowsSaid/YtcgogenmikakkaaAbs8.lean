/-
  A region that draws its order.
-/
import Derived.Test.YtcgogenmikakkaaAbs7
namespace Go.Abs
set_option linter.unusedVariables false
set_option linter.unusedSimpArgs false
open Go.RowKit

/-- 0: looks at slots alone; 1: reads, or makes memory; 2: writes; 3: not taken here. -/
def opKind : Op → Nat
  | .move _ | .assign _ | .pick _ _ _ | .unOp _ _ _ | .binOp _ _ _ _ _ | .build _ _ | .fieldAddr _ _ _ | .indexAddr _ _ _ | .nilCheck _ | .convert _ _ _ | .makeFunc _ _ _ | .extract _ _ => 0
  | .call { callee := .builtin .len, .. } | .call { callee := .builtin .cap, .. } | .call { callee := .builtin .max, .. } | .call { callee := .builtin .min, .. } => 0
  | .load _ _ | .alloc _ | .box _ _ | .buildSlice _ _ _ => 1
  | .call { callee := .value _, .. } => 1
  | .store _ _ _ => 2
  | _ => 3

/-- j waits for i, by an edge of its own -/
def waitsFor (ops : Array Oper) (j i : Nat) : Bool :=
  match ops[j]? with
  | some o => o.after.toList.any fun e => Region.binds .any e && e.on == i
  | none => false

def looks (ops : Array Oper) (o : Oper) : List Nat :=
  (o.op.operands.toList.filterMap fun | .tmp t => some t | _ => none) ++
  (match o.guard with
   | some (j, _) => ((ops[j]?).bind (·.dst)).toList
   | none => [])

def kindAt (ops : Array Oper) (i : Nat) : Nat := ((ops[i]?).map fun o => opKind o.op).getD 0

def drawOk (ops : Array Oper) : Bool :=
  (List.range ops.size).all fun j =>
    match ops[j]? with
    | none => true
    | some oj =>
      (opKind oj.op != 3) &&
      oj.after.toList.all (fun e => !Region.binds .any e || decide (e.on < j)) &&
      (List.range j).all fun i =>
        match ops[i]? with
        | none => true
        | some oi =>
          -- no slot written twice
          (match oi.dst, oj.dst with
           | some x, some y => x != y
           | _, _ => true) &&
          -- what one writes and the other looks at
          (match oi.dst with
           | some x => !(looks ops oj).contains x || waitsFor ops j i
           | none => true) &&
          (match oj.dst with
           | some y => !(looks ops oi).contains y || waitsFor ops j i
           | none => true) &&
          -- writers
          (if opKind oi.op = 2 then (opKind oj.op != 1) && (opKind oj.op != 2 || waitsFor ops j i) else true) &&
          (if opKind oi.op = 1 && opKind oj.op = 2 then waitsFor ops j i else true)

/-- more memory, what there was as it was; new cells hold plain values -/
def HExtR (H H' : Heap) : Prop :=
  H.n ≤ H'.n ∧ (∀ b, b < H.n → H'.m b = H.m b) ∧ ∀ b x, H.n ≤ b → b < H'.n → H'.m b = some x → ∀ sv ∈ x.cells, pers sv = true

def VD (P : Program) (te : Nat → Option TI) (all : Array Oper) : List Oper → Slots → Heap → (Slots → Heap → Prop) → Prop
  | [], σ, H, K => K σ H
  | o :: rest, σ, H, K =>
    match wantedA all σ o with
    | some true =>
      match callOf σ o.op with
      | some (f, args) => ∃ r H', ACalls P f args H r H' ∧ HExtR H H' ∧ VD P te all rest (Upd σ o.dst r) H' K
      | none =>
        match aop te σ H o.op with
        | some (r, H') => (match opKind o.op with | 0 => H' = H | 1 => HExtR H H' | _ => True) ∧ VD P te all rest (Upd σ o.dst r) H' K
        | none => False
    | some false => VD P te all rest (Upd σ o.dst (.tup [])) H K
    | none => False

theorem HExtR.refl (H : Heap) : HExtR H H := ⟨Nat.le_refl _, fun _ _ => rfl, fun b _ h1 h2 => absurd h2 (Nat.not_lt.2 h1)⟩
theorem HExtR.trans {a b c : Heap} (h : HExtR a b) (k : HExtR b c) : HExtR a c := by
  refine ⟨Nat.le_trans h.1 k.1, fun x hx => (k.2.1 x (Nat.lt_of_lt_of_le hx h.1)).trans (h.2.1 x hx), fun x y h1 h2 h3 => ?_⟩
  rcases Nat.lt_or_ge x b.n with hlt | hge
  · exact h.2.2 x y h1 hlt (by rw [← k.2.1 x hlt]; exact h3)
  · exact k.2.2 x y hge h2 h3

def Rst (ρ : Env) (n : Nat) : Env := { ρ with loc := fun b => if b < n then ρ b else .absent }
@[simp] theorem Rst_mem (ρ : Env) (n : Nat) : (Rst ρ n).mem = ρ.mem := rfl
theorem Rst.le {ρ : Env} {n : Nat} : Le (Rst ρ n) ρ := ⟨fun b => by
  unfold Rst
  by_cases h : b < n
  · simp [h]
  · simp [h], fun _ _ _ h => h⟩
theorem Rst.mono {ρ : Env} {n m : Nat} (h : n ≤ m) : Le (Rst ρ n) (Rst ρ m) := ⟨fun b => by
  unfold Rst
  by_cases h1 : b < n
  · have : b < m := by omega
    simp [h1, this]
  · simp [h1], fun _ _ _ h => h⟩
theorem Rst.le2 {ρ ρ' : Env} {n : Nat} (h : Le ρ ρ') : Le (Rst ρ n) (Rst ρ' n) := ⟨fun b => by
  unfold Rst
  by_cases h1 : b < n
  · simp only [h1, if_true]; exact h b
  · simp [h1], h.mem⟩
theorem Rst.lt {ρ : Env} {n b : Nat} (h : b < n) : Rst ρ n b = ρ b := by simp [Rst, h]
theorem Rst.ge {ρ : Env} {n b : Nat} (h : n ≤ b) : Rst ρ n b = .absent := by simp [Rst, Nat.not_lt.2 h]

theorem CS_agr {ρ ρ1 ρ2 : Env} {x : SV} {v v0 : Value} (h0 : CS ρ x v0) (ha : ∀ b, ρ b ≠ .absent → ρ2 b = ρ1 b) (hmm : ∀ cb j v, ρ1.mem cb j = some v → ρ2.mem cb j = some v) (h : CS ρ1 x v) : CS ρ2 x v := by
  have caps : ∀ {caps : List (Nat × Nat)} {vs0 vs : List Value}, Al2 (fun p v => PC ρ p.1 p.2 v) caps vs0 → Al2 (fun p v => PC ρ1 p.1 p.2 v) caps vs → Al2 (fun p v => PC ρ2 p.1 p.2 v) caps vs := by
    intro caps
    induction caps with
    | nil => intro vs0 vs _ h2; cases vs with
      | nil => trivial
      | cons => exact h2.elim
    | cons p caps ih =>
      intro vs0 vs h1 h2
      cases vs0 with
      | nil => exact h1.elim
      | cons u0 vs0 =>
        cases vs with
        | nil => exact h2.elim
        | cons u vs =>
          have hb : ρ p.1 ≠ .absent := fun e => by have := h1.1; simp [PC, e] at this
          refine ⟨?_, ih h1.2 h2.2⟩
          have := h2.1
          simp only [PC, ha p.1 hb]; exact this
  cases x with
  | raw u => exact pers_mono hmm rfl h
  | ptr b off =>
    have hb : ρ b ≠ .absent := fun e => by simp [CS, PC, e] at h0
    simp only [CS, PC, ha b hb] at h ⊢; exact h
  | sl b off len gr =>
    have hb : ρ b ≠ .absent := fun e => by simp [CS, LC, e] at h0
    simp only [CS, LC, ha b hb] at h ⊢; exact h
  | fn f cs =>
    simp only [CS] at h0 h ⊢
    obtain ⟨vs0, h1, _⟩ := h0
    obtain ⟨vs, h2, h3⟩ := h
    exact ⟨vs, caps h1 h2, h3⟩
  | vs n cells => exact pers_mono hmm rfl h
  | vp cells => exact pers_mono hmm rfl h
  | ve => exact pers_mono hmm rfl h

theorem Rel.lt' {B : Nat} {ρ : Env} {H : Heap} {w : World} (h : Rel B ρ H w) {b : Nat} (hb : ρ b ≠ .absent) : b < H.n := by
  rcases Nat.lt_or_ge b H.n with h1 | h1
  · exact h1
  · exact absurd (h.fresh b h1) hb

abbrev Heap.wn (H : Heap) (n : Nat) : Heap := { H with n := n }

/-! ### One operation, seen from the whole region's heap -/
section
variable {B : Nat} {ρ0 ρ ρ' : Env} {H0 Hi Hi1 Hp : Heap} {w0 w w' : World}

/-- what it was comes from the first environment, or is new -/
theorem old_at (hs : Step ρ0 H0 w0 ρ (Hp.wn H0.n) w) {b cb co cc : Nat} (hlt : b < H0.n) (hb : ρ b = .at_ cb co cc) : ρ0 b = .at_ cb co cc := by
  rcases hs.le b with h | h | h
  · rw [hs.abs b hlt h] at hb; cases hb
  · rw [← h]; exact hb
  · rw [h] at hb; cases hb

theorem own_sub (x2 : HExtR Hi Hp) {k n : Nat} (h : Own (Rst ρ Hi.n) Hi k) : Own ρ (Hp.wn n) k := by
  obtain ⟨b, co, cc, x, h1, h2, h3⟩ := h
  have l1 : b < Hi.n := by
    rcases Nat.lt_or_ge b Hi.n with h | h
    · exact h
    · rw [Rst.ge h] at h1; cases h1
  rw [Rst.lt l1] at h1
  exact ⟨b, co, cc, x, h1, by show Hp.m b = _; rw [x2.2.1 b l1]; exact h2, h3⟩

theorem frame1 (h0 : Rel B ρ0 H0 w0) (x0 : HExtR H0 Hi) (x2 : HExtR Hi Hp) (hs : Step ρ0 H0 w0 ρ (Hp.wn H0.n) w) (hr : Rel B ρ Hp w) : Rel B (Rst ρ Hi.n) Hi w := by
  refine ⟨⟨hr.hB, fun b hb => Rst.ge hb, ?_, ?_, ?_⟩, fun cb j v hv => ⟨(hr.imm cb j v hv).1, fun ho => (hr.imm cb j v hv).2 (own_sub x2 (n := 0) ho)⟩⟩
  · intro b x hb
    rcases Nat.lt_or_ge b Hi.n with hlt | hge
    · rw [Rst.lt hlt]; exact hr.live b x (by rw [x2.2.1 b hlt]; exact hb)
    · rw [Rst.ge hge]; exact fun h => by cases h
  · intro b cb co cc x hb hm
    rcases Nat.lt_or_ge b Hi.n with hlt | hge
    · rw [Rst.lt hlt] at hb
      obtain ⟨C, T, fz, k1, k2, k3, k4⟩ := hr.blk b cb co cc x hb (by rw [x2.2.1 b hlt]; exact hm)
      refine ⟨C, T, fz, k1, fun j sv hj => ?_, k3, k4⟩
      obtain ⟨v, k5, k6⟩ := k2 j sv hj
      refine ⟨v, k5, ?_⟩
      rcases Nat.lt_or_ge b H0.n with h1 | h1
      · obtain ⟨C0, T0, fz0, _, j2, _⟩ := h0.blk b cb co cc x (old_at hs h1 hb) (by rw [← x0.2.1 b h1]; exact hm)
        obtain ⟨v0, _, j6⟩ := j2 j sv hj
        exact CS_agr j6 (fun b' hb' => Rst.lt (Nat.lt_of_lt_of_le (h0.lt' hb') x0.1)) (fun _ _ _ h => h) k6
      · exact pers_mono (ρ := ρ) (ρ' := Rst ρ Hi.n) (fun _ _ _ h => h) (x0.2.2 b x h1 hlt hm sv (List.mem_of_getElem? hj)) k6
    · rw [Rst.ge hge] at hb; cases hb
  · intro b b' cb co cc co' cc' x x' hne g1 g2 g3 g4
    have l1 : b < Hi.n := by
      rcases Nat.lt_or_ge b Hi.n with h | h
      · exact h
      · rw [Rst.ge h] at g1; cases g1
    have l2 : b' < Hi.n := by
      rcases Nat.lt_or_ge b' Hi.n with h | h
      · exact h
      · rw [Rst.ge h] at g2; cases g2
    rw [Rst.lt l1] at g1; rw [Rst.lt l2] at g2
    exact hr.sep b b' cb co cc co' cc' x x' hne g1 g2 (by rw [x2.2.1 b l1]; exact g3) (by rw [x2.2.1 b' l2]; exact g4)

theorem frame1' (x0 : HExtR H0 Hi) (x1 : HExtR Hi Hi1) (x2 : HExtR Hi1 Hp) (hr : Rel B ρ Hp w) (hn : ∀ b, Hi.n ≤ b → b < Hi1.n → ρ b = .absent)
    (hr' : Rel B ρ' Hi1 w') (hs' : Step (Rst ρ Hi.n) Hi w ρ' Hi1 w') :
    ∃ ρ2, Rel B ρ2 Hp w' ∧ Step ρ (Hp.wn H0.n) w ρ2 (Hp.wn H0.n) w' ∧ Le ρ' (Rst ρ2 Hi1.n) ∧ (∀ b, Hi1.n ≤ b → ρ2 b = ρ b) ∧ (∀ b, b < Hi.n → ρ b = .absent → ρ2 b = .absent) := by
  let ρ2 : Env := { loc := fun b => if b < Hi1.n then ρ' b else ρ b, mem := ρ'.mem }
  have e1 : ∀ b, b < Hi1.n → ρ2 b = ρ' b := fun b h => by simp [ρ2, h]
  have e2 : ∀ b, Hi1.n ≤ b → ρ2 b = ρ b := fun b h => by simp [ρ2, Nat.not_lt.2 h]
  have x12 := x1.trans x2
  have x02 := x0.trans x12
  have hle : Le ρ' ρ2 := ⟨fun b => by
    rcases Nat.lt_or_ge b Hi1.n with h | h
    · exact .inr (.inl (e1 b h))
    · exact .inl (hr'.fresh b h), fun _ _ _ h => h⟩
  have hle1 : Le ρ ρ2 := ⟨fun b => by
    rcases Nat.lt_or_ge b Hi1.n with h | h
    · rw [e1 b h]
      rcases Nat.lt_or_ge b Hi.n with h' | h'
      · have := hs'.le b; rwa [Rst.lt h'] at this
      · exact .inl (hn b h' h)
    · exact .inr (.inl (e2 b h)), fun cb j v hv => hs'.le.mem cb j v hv⟩
  have habs : ∀ b, b < Hi.n → ρ b = .absent → ρ2 b = .absent := fun b hb ha => by
    rw [e1 b (Nat.lt_of_lt_of_le hb x1.1)]
    exact hs'.abs b hb (by rw [Rst.lt hb]; exact ha)
  -- no two of them share a concrete block that is written
  have hap : ∀ b b' cb co cc co' cc' x', b < Hi1.n → Hi1.n ≤ b' → ρ' b = .at_ cb co cc → ρ b' = .at_ cb co' cc' → Hp.m b' = some x' → ∀ x, Hp.m b = some x → x.wr = false ∧ x'.wr = false := by
    intro b b' cb co cc co' cc' x' hb hb' g1 g2 g4 x g3
    obtain ⟨C, T, fz, k1, _⟩ := hr.blk b' cb co' cc' x' g2 g4
    have hcb : cb < w.heap.size := (Array.getElem?_eq_some_iff.1 k1).1
    by_cases ha : Rst ρ Hi.n b = .absent
    · rcases hs'.new b cb co cc ha g1 with h | h
      · obtain ⟨b2, co2, cc2, y, h1, h2, h3⟩ := own_sub x12 (n := 0) h
        have hb2 : b2 ≠ b' := fun e => by
          obtain ⟨b3, _, _, y3, j1, j2, j3⟩ := h
          subst e
          have l3 : b3 < Hi.n := by
            rcases Nat.lt_or_ge b3 Hi.n with h | h
            · exact h
            · rw [Rst.ge h] at j1; cases j1
          rw [Rst.lt l3] at j1
          have := hr.sep b3 b2 cb _ _ _ _ y3 x' (fun e => by subst e; have := x1.1; omega) j1 g2 (by rw [x12.2.1 b3 l3]; exact j2) g4
          rw [j3] at this; exact absurd this.1 (by simp)
        have := hr.sep b2 b' cb _ _ _ _ y x' hb2 h1 g2 h2 g4
        rw [h3] at this; exact absurd this.1 (by simp)
      · omega
    · have hl : b < Hi.n := by
        rcases Nat.lt_or_ge b Hi.n with h | h
        · exact h
        · exact absurd (Rst.ge h) ha
      rcases hs'.le b with h | h | h
      · exact absurd h ha
      · rw [h, Rst.lt hl] at g1
        exact hr.sep b b' cb _ _ _ _ x x' (by omega) g1 g2 g3 g4
      · rw [h] at g1; cases g1
  have memn : ∀ cb j v, ρ'.mem cb j = some v → ρ.mem cb j = some v ∨ Own ρ Hp cb ∨ w.heap.size ≤ cb := fun cb j v hv => by
    rcases hs'.memn cb j v hv with h | h | h
    · exact .inl h
    · exact .inr (.inl (own_sub x12 (n := 0) h))
    · exact .inr (.inr h)
  have imm2 : ∀ cb j v, ρ'.mem cb j = some v → w'.cell? ⟨cb, j, none⟩ = some v ∧ ¬ Own ρ2 Hp cb := fun cb j v hv => by
    refine ⟨(hr'.imm cb j v hv).1, ?_⟩
    rintro ⟨b, co, cc, x, g1, g2, g3⟩
    rcases Nat.lt_or_ge b Hi1.n with h | h
    · rw [e1 b h] at g1
      exact (hr'.imm cb j v hv).2 ⟨b, co, cc, x, g1, by rw [← x2.2.1 b h]; exact g2, g3⟩
    · rw [e2 b h] at g1
      rcases hs'.memn cb j v hv with h1 | h1 | h1
      · exact (hr.imm cb j v h1).2 ⟨b, co, cc, x, g1, g2, g3⟩
      · obtain ⟨b3, _, _, y3, j1, j2, j3⟩ := h1
        have l3 : b3 < Hi.n := by
          rcases Nat.lt_or_ge b3 Hi.n with h | h
          · exact h
          · rw [Rst.ge h] at j1; cases j1
        rw [Rst.lt l3] at j1
        have := hr.sep b3 b cb _ _ _ _ y3 x (fun e => by subst e; have := x1.1; omega) j1 g1 (by rw [x12.2.1 b3 l3]; exact j2) g2
        rw [j3] at this; exact absurd this.1 (by simp)
      · obtain ⟨C, T, fz, k1, _⟩ := hr.blk b cb co cc x g1 g2
        have := (Array.getElem?_eq_some_iff.1 k1).1
        omega
  refine ⟨ρ2, ⟨⟨hr'.hB, ?_, ?_, ?_, ?_⟩, imm2⟩, ⟨hs'.os, hs'.tape, hs'.output, hs'.size, ?_, ?_, hle1, ?_, Nat.le_refl _, fun b hb ha => habs b (Nat.lt_of_lt_of_le hb x0.1) ha, memn⟩, ?_, e2, habs⟩
  · intro b hb
    rw [e2 b (Nat.le_trans x2.1 hb)]; exact hr.fresh b hb
  · intro b x hb
    rcases Nat.lt_or_ge b Hi1.n with h | h
    · rw [e1 b h]; exact hr'.live b x (by rw [← x2.2.1 b h]; exact hb)
    · rw [e2 b h]; exact hr.live b x hb
  · intro b cb co cc x hb hm
    rcases Nat.lt_or_ge b Hi1.n with h | h
    · rw [e1 b h] at hb
      exact (hr'.blk b cb co cc x hb (by rw [← x2.2.1 b h]; exact hm)).mono hle rfl
    · rw [e2 b h] at hb
      obtain ⟨C, T, fz, k1, k2, k3, k4⟩ := hr.blk b cb co cc x hb hm
      have hlt : cb < w.heap.size := (Array.getElem?_eq_some_iff.1 k1).1
      have hbp : b < Hp.n := hr.lt' (by rw [hb]; exact fun e => by cases e)
      have hraw := x2.2.2 b x h hbp hm
      by_cases ho : Own (Rst ρ Hi.n) Hi cb
      · exfalso
        obtain ⟨b3, _, _, y3, j1, j2, j3⟩ := ho
        have l3 : b3 < Hi.n := by
          rcases Nat.lt_or_ge b3 Hi.n with h | h
          · exact h
          · rw [Rst.ge h] at j1; cases j1
        rw [Rst.lt l3] at j1
        have := hr.sep b3 b cb _ _ _ _ y3 x (fun e => by subst e; have := x1.1; omega) j1 hb (by rw [x12.2.1 b3 l3]; exact j2) hm
        rw [j3] at this; exact absurd this.1 (by simp)
      · refine ⟨C, T, fz, (hs'.keep cb hlt ho).trans k1, fun j sv hj => ?_, k3, k4⟩
        obtain ⟨v, k5, k6⟩ := k2 j sv hj
        exact ⟨v, k5, pers_mono hle1.mem (hraw sv (List.mem_of_getElem? hj)) k6⟩
  · intro b b' cb co cc co' cc' x x' hne g1 g2 g3 g4
    rcases Nat.lt_or_ge b Hi1.n with h | h <;> rcases Nat.lt_or_ge b' Hi1.n with h' | h'
    · rw [e1 b h] at g1; rw [e1 b' h'] at g2
      exact hr'.sep b b' cb co cc co' cc' x x' hne g1 g2 (by rw [← x2.2.1 b h]; exact g3) (by rw [← x2.2.1 b' h']; exact g4)
    · rw [e1 b h] at g1; rw [e2 b' h'] at g2
      exact hap b b' cb co cc co' cc' x' h h' g1 g2 g4 x g3
    · rw [e2 b h] at g1; rw [e1 b' h'] at g2
      exact (hap b' b cb co' cc' co cc x h' h g2 g1 g3 x' g4).symm
    · rw [e2 b h] at g1; rw [e2 b' h'] at g2
      exact hr.sep b b' cb co cc co' cc' x x' hne g1 g2 g3 g4
  · intro k hk ho
    exact hs'.keep k hk fun h => ho (own_sub x12 h)
  · rintro k ⟨b, co, cc, x, g1, g2, g3⟩
    rcases Nat.lt_or_ge b Hi1.n with h | h
    · rw [e1 b h] at g1
      rcases hs'.own k ⟨b, co, cc, x, g1, by rw [← x2.2.1 b h]; exact g2, g3⟩ with h1 | h1
      · exact .inl (own_sub x12 h1)
      · exact .inr h1
    · rw [e2 b h] at g1
      exact .inl ⟨b, co, cc, x, g1, g2, g3⟩
  · intro b cb co cc ha g1
    rcases Nat.lt_or_ge b Hi1.n with h | h
    · rw [e1 b h] at g1
      have : Rst ρ Hi.n b = .absent := by
        rcases Nat.lt_or_ge b Hi.n with h' | h'
        · rw [Rst.lt h']; exact ha
        · exact Rst.ge h'
      rcases hs'.new b cb co cc this g1 with h1 | h1
      · exact .inl (own_sub x12 h1)
      · exact .inr h1
    · rw [e2 b h, ha] at g1; cases g1
  · refine ⟨fun b => ?_, fun _ _ _ h => h⟩
    rcases Nat.lt_or_ge b Hi1.n with h | h
    · rw [Rst.lt h, e1 b h]; exact .inr (.inl rfl)
    · exact .inl (hr'.fresh b h)

/-- the heap of which only the living is known -/
def Heap.bare (H : Heap) : Heap := { m := fun b => (H.m b).map fun _ => ⟨[], 0, false⟩, n := H.n }

theorem bare_live {H : Heap} {b : Nat} {x : Blk} (h : H.bare.m b = some x) : x = ⟨[], 0, false⟩ ∧ ∃ y, H.m b = some y := by
  simp only [Heap.bare, Option.map_eq_some_iff] at h
  obtain ⟨y, h1, h2⟩ := h
  exact ⟨h2.symm, y, h1⟩

theorem bare_own {k : Nat} (h : Own ρ Hi.bare k) : False := by
  obtain ⟨b, co, cc, x, h1, h2, h3⟩ := h
  obtain ⟨rfl, _⟩ := bare_live h2
  simp at h3

theorem frame0 (hd : ∀ b, b < Hi.n → (∃ x, Hi.m b = some x) → ∃ x, Hp.m b = some x) (hr : Rel B ρ Hp w) : Rel B (Rst ρ Hi.n) Hi.bare w := by
  have lt : ∀ {b cb co cc}, Rst ρ Hi.n b = .at_ cb co cc → b < Hi.n ∧ ρ b = .at_ cb co cc := fun {b cb co cc} h => by
    rcases Nat.lt_or_ge b Hi.n with h' | h'
    · rw [Rst.lt h'] at h; exact ⟨h', h⟩
    · rw [Rst.ge h'] at h; cases h
  refine ⟨⟨hr.hB, fun b hb => Rst.ge hb, ?_, ?_, ?_⟩, fun cb j v hv => ⟨(hr.imm cb j v hv).1, bare_own⟩⟩
  · intro b x hb
    rcases Nat.lt_or_ge b Hi.n with h' | h'
    · rw [Rst.lt h']
      obtain ⟨y, hy⟩ := hd b h' (bare_live hb).2
      exact hr.live b y hy
    · rw [Rst.ge h']; exact fun h => by cases h
  · intro b cb co cc x hb hm
    obtain ⟨rfl, hy⟩ := bare_live hm
    obtain ⟨h1, h2⟩ := lt hb
    obtain ⟨y, hy⟩ := hd b h1 hy
    obtain ⟨C, T, fz, k1, _⟩ := hr.blk b cb co cc y h2 hy
    exact ⟨C, T, fz, k1, fun j sv hj => by simp at hj, fun h => by simp at h, fun h => absurd rfl h⟩
  · intro b b' cb co cc co' cc' x x' hne g1 g2 g3 g4
    obtain ⟨rfl, _⟩ := bare_live g3
    obtain ⟨rfl, _⟩ := bare_live g4
    exact ⟨rfl, rfl⟩

theorem frame0' (hn : H0.n ≤ Hi.n) (hnp : Hi.n ≤ Hp.n) (hd : ∀ b, b < Hi.n → (∃ x, Hp.m b = some x) → ∃ x, Hi.m b = some x) (hr : Rel B ρ Hp w)
    (hr' : Rel B ρ' Hi.bare w') (hs' : Step (Rst ρ Hi.n) Hi.bare w ρ' Hi.bare w') :
    ∃ ρ2, Rel B ρ2 Hp w' ∧ Step ρ (Hp.wn H0.n) w ρ2 (Hp.wn H0.n) w' ∧ Le ρ' (Rst ρ2 Hi.n) ∧ (∀ b, Hi.n ≤ b → ρ2 b = ρ b) ∧ (∀ b, b < Hi.n → ρ b = .absent → ρ2 b = .absent) := by
  let ρ2 : Env := { loc := fun b => if b < Hi.n then ρ' b else ρ b, mem := ρ'.mem }
  have e1 : ∀ b, b < Hi.n → ρ2 b = ρ' b := fun b h => by simp [ρ2, h]
  have e2 : ∀ b, Hi.n ≤ b → ρ2 b = ρ b := fun b h => by simp [ρ2, Nat.not_lt.2 h]
  have habs : ∀ b, b < Hi.n → ρ b = .absent → ρ2 b = .absent := fun b hb ha => by
    rw [e1 b hb]
    exact hs'.abs b hb (by rw [Rst.lt hb]; exact ha)
  have hle1 : Le ρ ρ2 := ⟨fun b => by
    rcases Nat.lt_or_ge b Hi.n with h | h
    · rw [e1 b h]
      have := hs'.le b; rwa [Rst.lt h] at this
    · exact .inr (.inl (e2 b h)), fun cb j v hv => hs'.le.mem cb j v hv⟩
  have back : ∀ {b cb co cc}, ρ2 b = .at_ cb co cc → ρ b = .at_ cb co cc := fun {b cb co cc} h => by
    rcases hle1 b with h1 | h1 | h1
    · rcases Nat.lt_or_ge b Hi.n with h2 | h2
      · rw [habs b h2 h1] at h; cases h
      · rw [e2 b h2] at h; exact h
    · rw [h1] at h; exact h
    · rw [h1] at h; cases h
  have keep : ∀ k, k < w.heap.size → w'.heap[k]? = w.heap[k]? := fun k hk => hs'.keep k hk fun h => bare_own h
  have memn : ∀ cb j v, ρ'.mem cb j = some v → ρ.mem cb j = some v ∨ Own ρ Hp cb ∨ w.heap.size ≤ cb := fun cb j v hv => by
    rcases hs'.memn cb j v hv with h | h | h
    · exact .inl h
    · exact (bare_own h).elim
    · exact .inr (.inr h)
  have imm2 : ∀ cb j v, ρ'.mem cb j = some v → w'.cell? ⟨cb, j, none⟩ = some v ∧ ¬ Own ρ2 Hp cb := fun cb j v hv => by
    refine ⟨(hr'.imm cb j v hv).1, ?_⟩
    rintro ⟨b, co, cc, x, g1, g2, g3⟩
    rcases hs'.memn cb j v hv with h | h | h
    · exact (hr.imm cb j v h).2 ⟨b, co, cc, x, back g1, g2, g3⟩
    · exact bare_own h
    · obtain ⟨C, T, fz, k1, _⟩ := hr.blk b cb co cc x (back g1) g2
      have := (Array.getElem?_eq_some_iff.1 k1).1
      omega
  refine ⟨ρ2, ⟨⟨hr'.hB, ?_, ?_, ?_, ?_⟩, imm2⟩, ⟨hs'.os, hs'.tape, hs'.output, hs'.size, fun k hk _ => keep k hk, ?_, hle1, ?_, Nat.le_refl _, fun b hb ha => habs b (Nat.lt_of_lt_of_le hb hn) ha, memn⟩, ?_, e2, habs⟩
  · intro b hb
    rw [e2 b (Nat.le_trans hnp hb)]; exact hr.fresh b hb
  · intro b x hb
    rcases Nat.lt_or_ge b Hi.n with h | h
    · rw [e1 b h]
      obtain ⟨y, hy⟩ := hd b h ⟨x, hb⟩
      exact hr'.live b ⟨[], 0, false⟩ (by simp [Heap.bare, hy])
    · rw [e2 b h]; exact hr.live b x hb
  · intro b cb co cc x hb hm
    have h2 := hr.blk b cb co cc x (back hb) hm
    have h3 : cb < w.heap.size := by
      obtain ⟨C, T, fz, k1, _⟩ := h2
      exact (Array.getElem?_eq_some_iff.1 k1).1
    exact h2.mono hle1 (keep cb h3)
  · intro b b' cb co cc co' cc' x x' hne g1 g2 g3 g4
    exact hr.sep b b' cb co cc co' cc' x x' hne (back g1) (back g2) g3 g4
  · rintro k ⟨b, co, cc, x, g1, g2, g3⟩
    exact .inl ⟨b, co, cc, x, back g1, g2, g3⟩
  · intro b cb co cc ha g1
    rw [back g1] at ha; cases ha
  · refine ⟨fun b => ?_, fun _ _ _ h => h⟩
    rcases Nat.lt_or_ge b Hi.n with h | h
    · rw [Rst.lt h, e1 b h]; exact .inr (.inl rfl)
    · exact .inl (hr'.fresh b h)
end

theorem bare_m {H : Heap} {b : Nat} {x : Blk} (h : H.m b = some x) : H.bare.m b = some ⟨[], 0, false⟩ := by simp [Heap.bare, h]

theorem abin_bare {te : Nat → Option TI} {H : Heap} {op : BinOp} {t : Nat} {x y r : AV} (h : abin te H op t x y = some r) : abin te H.bare op t x y = some r := by
  unfold abin at h ⊢
  split at h
  · exact h
  · exact h
  · rename_i b _ _ _
    split at h
    · rename_i h1 h2; simp only [h1, bare_m h2]; exact h
    · rename_i h1 h2; simp only [h1, bare_m h2]; exact h
    · cases h
  · exact h
  · exact h
  · exact h
  · exact h
  · cases h

theorem aop_bare {te : Nat → Option TI} {σ : Slots} {H H' : Heap} {op : Op} {r : AV} (hk : opKind op = 0) (h : aop te σ H op = some (r, H')) (he : H' = H) : aop te σ H.bare op = some (r, H.bare) := by
  subst he
  cases op with
  | move x => simp only [aop, Option.some.injEq, Prod.mk.injEq] at h ⊢; exact ⟨h.1, trivial⟩
  | assign x => simp only [aop, Option.some.injEq, Prod.mk.injEq] at h ⊢; exact ⟨h.1, trivial⟩
  | pick c x y =>
    simp only [aop] at h ⊢
    split at h
    · simp only [Option.some.injEq, Prod.mk.injEq] at h ⊢; exact ⟨h.1, trivial⟩
    · cases h
  | binOp op t x y _ =>
    simp only [aop, Option.map_eq_some_iff, Prod.mk.injEq] at h ⊢
    obtain ⟨v, h1, h2, _⟩ := h
    exact ⟨v, abin_bare h1, h2, trivial⟩
  | unOp op _ x =>
    simp only [aop] at h ⊢
    split at h <;> first | (simp only [Option.some.injEq, Prod.mk.injEq] at h ⊢; exact ⟨h.1, trivial⟩) | cases h
  | convert s d x =>
    simp only [aop] at h ⊢
    split at h
    · rename_i h1 h2 h3
      simp only [h1, h2, h3, Option.some.injEq, Prod.mk.injEq] at h ⊢; exact ⟨h.1, trivial⟩
    · cases h
  | build t ps =>
    simp only [aop] at h ⊢
    split at h
    · rename_i h1
      simp only [h1, Option.map_eq_some_iff, Prod.mk.injEq] at h ⊢
      obtain ⟨v, h1, h2, _⟩ := h
      exact ⟨v, h1, h2, trivial⟩
    · cases h
  | makeFunc f a c =>
    cases f with
    | func f =>
      simp only [aop] at h ⊢
      split at h
      · rename_i h0
        simp only [h0, if_true, Option.map_eq_some_iff, Prod.mk.injEq] at h ⊢
        obtain ⟨v, h1, h2, _⟩ := h
        exact ⟨v, h1, h2, trivial⟩
      · cases h
    | _ => simp [aop] at h
  | extract x i =>
    simp only [aop] at h ⊢
    split at h
    · simp only [Option.map_eq_some_iff, Prod.mk.injEq] at h ⊢
      obtain ⟨v, h1, h2, _⟩ := h
      exact ⟨v, h1, h2, trivial⟩
    · cases h
  | nilCheck x =>
    simp only [aop] at h ⊢
    generalize ev σ x = v at h ⊢
    split at h
    · split at h
      · rename_i h1
        simp only [bare_m h1, Option.some.injEq, Prod.mk.injEq] at h ⊢; exact ⟨h.1, trivial⟩
      · cases h
    · simp only [Option.some.injEq, Prod.mk.injEq] at h ⊢; exact ⟨h.1, trivial⟩
    · cases h
  | fieldAddr s x f =>
    simp only [aop] at h ⊢
    generalize ev σ x = v at h ⊢
    generalize te s = ti at h ⊢
    split at h
    · split at h
      · rename_i h3 h4
        simp only [h3, bare_m h4]
        split at h
        · rename_i h5
          rw [if_pos h5]; simp only [Option.some.injEq, Prod.mk.injEq] at h ⊢; exact ⟨h.1, trivial⟩
        · cases h
      · cases h
    · split at h
      · split at h
        · rename_i h5
          simp only [if_pos h5]; simp only [Option.some.injEq, Prod.mk.injEq] at h ⊢; exact ⟨h.1, trivial⟩
        · cases h
      · cases h
    · cases h
  | indexAddr t x ix =>
    simp only [aop] at h ⊢
    generalize ev σ x = v at h ⊢
    generalize ev σ ix = v2 at h ⊢
    generalize te t = ti at h ⊢
    split at h
    · split at h
      · rename_i h4 h5
        simp only [h4, bare_m h5]
        split at h
        · rename_i h5
          rw [if_pos h5]; simp only [Option.some.injEq, Prod.mk.injEq] at h ⊢; exact ⟨h.1, trivial⟩
        · cases h
      · cases h
    · split at h
      · rename_i h4 h5
        simp only [h4, bare_m h5]
        split at h
        · rename_i h5
          rw [if_pos h5]; simp only [Option.some.injEq, Prod.mk.injEq] at h ⊢; exact ⟨h.1, trivial⟩
        · cases h
      · cases h
    · split at h
      · split at h
        · rename_i h5
          simp only [if_pos h5]; simp only [Option.some.injEq, Prod.mk.injEq] at h ⊢; exact ⟨h.1, trivial⟩
        · cases h
      · cases h
    · split at h
      · split at h
        · rename_i h5
          simp only [if_pos h5]; simp only [Option.some.injEq, Prod.mk.injEq] at h ⊢; exact ⟨h.1, trivial⟩
        · cases h
      · cases h
    · cases h
  | call c =>
    obtain ⟨callee, args, ts⟩ := c
    cases callee with
    | value _ => simp [opKind] at hk
    | builtin b =>
      simp only [aop] at h ⊢
      generalize args.toList.map (ev σ) = l at h ⊢
      generalize ts.toList = m at h ⊢
      cases b <;> simp [opKind] at hk
      · match l, m, h with
        | [x], [t], h =>
          simp only [abuiltin] at h ⊢
          generalize te t = ti at h ⊢
          split at h
          · simp only [Option.some.injEq, Prod.mk.injEq] at h ⊢; exact ⟨h.1, trivial⟩
          · cases h
      · match l, m, h with
        | [x], [t], h =>
          simp only [abuiltin] at h ⊢
          generalize te t = ti at h ⊢
          split at h
          · simp only [Option.some.injEq, Prod.mk.injEq] at h ⊢; exact ⟨h.1, trivial⟩
          · split at h
            · rename_i h1
              simp only [bare_m h1, Option.some.injEq, Prod.mk.injEq] at h ⊢; exact ⟨h.1, trivial⟩
            · cases h
          · simp only [Option.some.injEq, Prod.mk.injEq] at h ⊢; exact ⟨h.1, trivial⟩
          · simp only [Option.some.injEq, Prod.mk.injEq] at h ⊢; exact ⟨h.1, trivial⟩
          · cases h
      all_goals
        unfold abuiltin at h ⊢
        split at h <;> first
          | (cases h; done)
          | (simp only [Option.some.injEq, Prod.mk.injEq] at h ⊢; exact ⟨h.1, trivial⟩)
          | (rename_i heq _; cases heq; done)
          | (rename_i heq; cases heq; done)
          | skip
    | _ => simp [aop] at h
  | _ => first | (simp [opKind] at hk; done) | (simp [aop] at h; done)

/-! ### The region, run once in the order of the text -/
def StepV (P : Program) (te : Nat → Option TI) (ops : Array Oper) (o : Oper) (σ : Slots) (H : Heap) (v : AV) (H' : Heap) : Prop :=
  (wantedA ops σ o = some false ∧ v = .tup [] ∧ H' = H) ∨
  (wantedA ops σ o = some true ∧ ((∃ f args, callOf σ o.op = some (f, args) ∧ ACalls P f args H v H' ∧ HExtR H H') ∨
    (aop te σ H o.op = some (v, H') ∧ (opKind o.op = 0 → H' = H) ∧ (opKind o.op = 1 → HExtR H H'))))

theorem callOf_kind {σ : Slots} {op : Op} {x : FuncId × List Cmp} (h : callOf σ op = some x) : opKind op = 1 := by
  unfold callOf at h
  split at h
  · rfl
  · cases h

theorem vd_trace {P : Program} {te : Nat → Option TI} {ops : Array Oper} {K : Slots → Heap → Prop} : ∀ (l : List Oper) (k : Nat), ops.toList.drop k = l → k ≤ ops.size → ∀ (σ : Slots) (H : Heap), VD P te ops l σ H K →
    ∃ (v : Nat → AV) (ss : Nat → Slots) (hs : Nat → Heap), ss k = σ ∧ hs k = H ∧ K (ss ops.size) (hs ops.size) ∧
      ∀ i o, k ≤ i → ops[i]? = some o → StepV P te ops o (ss i) (hs i) (v i) (hs (i + 1)) ∧ ss (i + 1) = Upd (ss i) o.dst (v i)
  | [], k, hd, hk, σ, H, hv => by
    have hle : ops.size ≤ k := by have := List.drop_eq_nil_iff.1 hd; simpa using this
    refine ⟨fun _ => .any, fun _ => σ, fun _ => H, rfl, rfl, hv, fun i o hi ho => ?_⟩
    have := (Array.getElem?_eq_some_iff.1 ho).1
    omega
  | o :: l, k, hd, hk, σ, H, hv => by
    have hko : ops[k]? = some o := by
      have : (ops.toList.drop k)[0]? = some o := by rw [hd]; rfl
      simpa using this
    have hlt : k < ops.size := (Array.getElem?_eq_some_iff.1 hko).1
    have hd' : ops.toList.drop (k + 1) = l := by
      have : (ops.toList.drop k).drop 1 = l := by rw [hd]; rfl
      rwa [List.drop_drop] at this
    have key : ∃ r H', StepV P te ops o σ H r H' ∧ VD P te ops l (Upd σ o.dst r) H' K := by
      simp only [VD] at hv
      split at hv
      · rename_i hw
        split at hv
        · rename_i f args hc
          obtain ⟨r, H', h1, h2, h3⟩ := hv
          exact ⟨r, H', .inr ⟨hw, .inl ⟨f, args, hc, h1, h2⟩⟩, h3⟩
        · split at hv
          · rename_i r H' ha
            refine ⟨r, H', .inr ⟨hw, .inr ⟨ha, fun h0 => ?_, fun h1 => ?_⟩⟩, hv.2⟩
            · have := hv.1; rw [h0] at this; exact this
            · have := hv.1; rw [h1] at this; exact this
          · exact hv.elim
      · rename_i hw
        exact ⟨.tup [], H, .inl ⟨hw, rfl, rfl⟩, hv⟩
      · exact hv.elim
    obtain ⟨r, H', h1, h2⟩ := key
    obtain ⟨v, ss, hs, g1, g2, g3, g4⟩ := vd_trace l (k + 1) hd' hlt _ _ h2
    refine ⟨fun i => if i = k then r else v i, fun i => if i = k then σ else ss i, fun i => if i = k then H else hs i, by simp, by simp, ?_, fun i o' hi ho => ?_⟩
    · have : ops.size ≠ k := by omega
      simp only [this, if_false]; exact g3
    · by_cases e : i = k
      · subst e
        rw [hko] at ho; injection ho with ho; subst ho
        have : ¬ i + 1 = i := by omega
        simp only [if_true, this, if_false]
        rw [g1, g2]; exact ⟨h1, rfl⟩
      · have h3 : ¬ i + 1 = k := by omega
        simp only [e, h3, if_false]
        exact g4 i o' (by omega) ho

structure DOk (ops : Array Oper) : Prop where
  k3 : ∀ (j : Nat) (o : Oper), ops[j]? = some o → opKind o.op ≠ 3
  back : ∀ (j : Nat) (o : Oper) (e : Edge), ops[j]? = some o → e ∈ o.after → Region.binds .any e = true → e.on < j
  one : ∀ (i j : Nat) (oi oj : Oper) (x : Tmp), i < j → ops[i]? = some oi → ops[j]? = some oj → oi.dst = some x → oj.dst = some x → False
  raw : ∀ (i j : Nat) (oi oj : Oper) (x : Tmp), i < j → ops[i]? = some oi → ops[j]? = some oj → oi.dst = some x → x ∈ looks ops oj → waitsFor ops j i = true
  war : ∀ (i j : Nat) (oi oj : Oper) (x : Tmp), i < j → ops[i]? = some oi → ops[j]? = some oj → oj.dst = some x → x ∈ looks ops oi → waitsFor ops j i = true
  w1 : ∀ (i j : Nat) (oi oj : Oper), i < j → ops[i]? = some oi → ops[j]? = some oj → opKind oi.op = 2 → opKind oj.op ≠ 1
  w2 : ∀ (i j : Nat) (oi oj : Oper), i < j → ops[i]? = some oi → ops[j]? = some oj → opKind oi.op = 2 → opKind oj.op = 2 → waitsFor ops j i = true
  rw : ∀ (i j : Nat) (oi oj : Oper), i < j → ops[i]? = some oi → ops[j]? = some oj → opKind oi.op = 1 → opKind oj.op = 2 → waitsFor ops j i = true

theorem dok_of {ops : Array Oper} (h : drawOk ops = true) : DOk ops := by
  have g : ∀ j oj, ops[j]? = some oj → ((opKind oj.op != 3) = true ∧ oj.after.toList.all (fun e => !Region.binds .any e || decide (e.on < j)) = true) ∧ ∀ i, i < j → ∀ oi, ops[i]? = some oi →
      ((((match oi.dst, oj.dst with | some x, some y => x != y | _, _ => true) = true ∧
      (match oi.dst with | some x => !(looks ops oj).contains x || waitsFor ops j i | none => true) = true) ∧
      (match oj.dst with | some y => !(looks ops oi).contains y || waitsFor ops j i | none => true) = true) ∧
      (if opKind oi.op = 2 then (opKind oj.op != 1) && (opKind oj.op != 2 || waitsFor ops j i) else true) = true) ∧
      (if decide (opKind oi.op = 1) = true ∧ decide (opKind oj.op = 2) = true then waitsFor ops j i else true) = true := by
    intro j oj hj
    have hlt := (Array.getElem?_eq_some_iff.1 hj).1
    have h1 := List.all_eq_true.1 h j (List.mem_range.2 hlt)
    simp only [hj, Bool.and_eq_true] at h1
    refine ⟨h1.1, fun i hi oi ho => ?_⟩
    have h2 := List.all_eq_true.1 h1.2 i (List.mem_range.2 hi)
    simp only [ho, Bool.and_eq_true] at h2
    exact h2
  refine ⟨?_, ?_, ?_, ?_, ?_, ?_, ?_, ?_⟩
  · intro j o ho
    simpa using (g j o ho).1.1
  · intro j o e ho he hb
    have := List.all_eq_true.1 (g j o ho).1.2 e (Array.mem_toList_iff.2 he)
    simpa [hb] using this
  · intro i j oi oj x hij hi hj h1 h2
    have := ((g j oj hj).2 i hij oi hi).1.1.1.1
    rw [h1, h2] at this
    simp at this
  · intro i j oi oj x hij hi hj h1 h2
    have := ((g j oj hj).2 i hij oi hi).1.1.1.2
    rw [h1] at this
    simpa [h2] using this
  · intro i j oi oj x hij hi hj h1 h2
    have := ((g j oj hj).2 i hij oi hi).1.1.2
    rw [h1] at this
    simpa [h2] using this
  · intro i j oi oj hij hi hj h1 h2
    have := ((g j oj hj).2 i hij oi hi).1.2
    rw [if_pos h1] at this
    simp [h2] at this
  · intro i j oi oj hij hi hj h1 h2
    have := ((g j oj hj).2 i hij oi hi).1.2
    rw [if_pos h1] at this
    simpa [h2] using this
  · intro i j oi oj hij hi hj h1 h2
    have := ((g j oj hj).2 i hij oi hi).2
    simpa [h1, h2] using this

theorem store_dom {te : Nat → Option TI} {σ : Slots} {H H' : Heap} {op : Op} {r : AV} (hk : opKind op = 2) (h : aop te σ H op = some (r, H')) : r = .any ∧ H'.n = H.n ∧ ∀ b, (∃ x, H'.m b = some x) ↔ ∃ x, H.m b = some x := by
  cases op with
  | store t a x =>
    simp only [aop] at h
    split at h
    · simp only [Option.map_eq_some_iff, Prod.mk.injEq] at h
      obtain ⟨H1, h1, h2, h3⟩ := h
      subst h3
      unfold astore at h1
      split at h1
      · rename_i hx _
        split at h1
        · injection h1 with h1; subst h1
          refine ⟨h2.symm, rfl, fun b' => ?_⟩
          rename_i b _ _ _ _ _ _ _
          simp only [Heap.set]
          split
          · rename_i e; subst e
            exact ⟨fun _ => ⟨_, hx⟩, fun _ => ⟨_, rfl⟩⟩
          · exact Iff.rfl
        · cases h1
      · cases h1
    · cases h
  | call c =>
    obtain ⟨callee, args, ts⟩ := c
    cases callee with
    | builtin b => cases b <;> simp [opKind] at hk
    | _ => simp [opKind] at hk
  | _ => simp [opKind] at hk

/-! ### The heaps along the text -/
section
variable {P : Program} {te : Nat → Option TI} {ops : Array Oper} {v : Nat → AV} {ss : Nat → Slots} {hs : Nat → Heap}
abbrev Trace (P : Program) (te : Nat → Option TI) (ops : Array Oper) (v : Nat → AV) (ss : Nat → Slots) (hs : Nat → Heap) : Prop :=
  ∀ (i : Nat) (o : Oper), ops[i]? = some o → StepV P te ops o (ss i) (hs i) (v i) (hs (i + 1)) ∧ ss (i + 1) = Upd (ss i) o.dst (v i)

theorem st0 (T : Trace P te ops v ss hs) {i : Nat} {o : Oper} (ho : ops[i]? = some o) (hk : opKind o.op = 0) : hs (i + 1) = hs i := by
  rcases (T i o ho).1 with ⟨_, _, h⟩ | ⟨_, ⟨f, args, hc, _⟩ | ⟨_, h, _⟩⟩
  · exact h
  · have := callOf_kind hc; omega
  · exact h hk
theorem st1 (T : Trace P te ops v ss hs) {i : Nat} {o : Oper} (ho : ops[i]? = some o) (hk : opKind o.op = 1) : HExtR (hs i) (hs (i + 1)) := by
  rcases (T i o ho).1 with ⟨_, _, h⟩ | ⟨_, ⟨f, args, _, _, h⟩ | ⟨_, _, h⟩⟩
  · rw [h]; exact HExtR.refl _
  · exact h
  · exact h hk
theorem st2 (T : Trace P te ops v ss hs) {i : Nat} {o : Oper} (ho : ops[i]? = some o) (hk : opKind o.op = 2) : (hs (i + 1)).n = (hs i).n ∧ ∀ b, (∃ x, (hs (i + 1)).m b = some x) ↔ ∃ x, (hs i).m b = some x := by
  rcases (T i o ho).1 with ⟨_, hv, h⟩ | ⟨_, ⟨f, args, hc, _⟩ | ⟨ha, _⟩⟩
  · rw [h]; exact ⟨rfl, fun _ => Iff.rfl⟩
  · have := callOf_kind hc; omega
  · exact (store_dom hk ha).2
theorem kinds (D : DOk ops) {i : Nat} {o : Oper} (ho : ops[i]? = some o) : opKind o.op = 0 ∨ opKind o.op = 1 ∨ opKind o.op = 2 := by
  have h3 := D.k3 i o ho
  have : opKind o.op ≤ 3 := by unfold opKind; split <;> omega
  omega

theorem rangeX (D : DOk ops) (T : Trace P te ops v ss hs) : ∀ (d i : Nat), i + d ≤ ops.size → (∀ (j : Nat) (o : Oper), i ≤ j → j < i + d → ops[j]? = some o → opKind o.op ≠ 2) → HExtR (hs i) (hs (i + d))
  | 0, i, _, _ => HExtR.refl _
  | d + 1, i, hle, hk => by
    have ho : ops[i + d]? = some ops[i + d] := Array.getElem?_eq_getElem (by omega)
    refine (rangeX D T d i (by omega) fun j o h1 h2 h3 => hk j o h1 (by omega) h3).trans ?_
    show HExtR (hs (i + d)) (hs (i + d + 1))
    rcases kinds D ho with h | h | h
    · rw [st0 T ho h]; exact HExtR.refl _
    · exact st1 T ho h
    · exact absurd h (hk (i + d) _ (by omega) (by omega) ho)
theorem range0 (D : DOk ops) (T : Trace P te ops v ss hs) : ∀ (d i : Nat), i + d ≤ ops.size → (∀ (j : Nat) (o : Oper), i ≤ j → j < i + d → ops[j]? = some o → opKind o.op = 0) → hs (i + d) = hs i
  | 0, i, _, _ => rfl
  | d + 1, i, hle, hk => by
    have ho : ops[i + d]? = some ops[i + d] := Array.getElem?_eq_getElem (by omega)
    have := range0 D T d i (by omega) fun j o h1 h2 h3 => hk j o h1 (by omega) h3
    rw [← this]
    exact st0 T ho (hk (i + d) _ (by omega) (by omega) ho)
theorem rangeD (D : DOk ops) (T : Trace P te ops v ss hs) : ∀ (d i : Nat), i + d ≤ ops.size → (hs i).n ≤ (hs (i + d)).n ∧ ∀ b, b < (hs i).n → ((∃ x, (hs (i + d)).m b = some x) ↔ ∃ x, (hs i).m b = some x)
  | 0, i, _ => ⟨Nat.le_refl _, fun _ _ => Iff.rfl⟩
  | d + 1, i, hle => by
    have ho : ops[i + d]? = some ops[i + d] := Array.getElem?_eq_getElem (by omega)
    obtain ⟨h1, h2⟩ := rangeD D T d i (by omega)
    have hs1 : (hs (i + d)).n ≤ (hs (i + d + 1)).n ∧ ∀ b, b < (hs (i + d)).n → ((∃ x, (hs (i + d + 1)).m b = some x) ↔ ∃ x, (hs (i + d)).m b = some x) := by
      rcases kinds D ho with h | h | h
      · rw [st0 T ho h]; exact ⟨Nat.le_refl _, fun _ _ => Iff.rfl⟩
      · have := st1 T ho h
        exact ⟨this.1, fun b hb => by rw [this.2.1 b hb]⟩
      · obtain ⟨h3, h4⟩ := st2 T ho h
        exact ⟨Nat.le_of_eq h3.symm, fun b _ => h4 b⟩
    exact ⟨Nat.le_trans h1 hs1.1, fun b hb => (hs1.2 b (Nat.lt_of_lt_of_le hb h1)).trans (h2 b hb)⟩
theorem rangeB (D : DOk ops) (T : Trace P te ops v ss hs) : ∀ (d i : Nat), i + d ≤ ops.size → (∀ (j : Nat) (o : Oper), i ≤ j → j < i + d → ops[j]? = some o → opKind o.op ≠ 1) → (hs (i + d)).n = (hs i).n ∧ ∀ b, ((∃ x, (hs (i + d)).m b = some x) ↔ ∃ x, (hs i).m b = some x)
  | 0, i, _, _ => ⟨rfl, fun _ => Iff.rfl⟩
  | d + 1, i, hle, hk => by
    have ho : ops[i + d]? = some ops[i + d] := Array.getElem?_eq_getElem (by omega)
    obtain ⟨h1, h2⟩ := rangeB D T d i (by omega) fun j o h1 h2 h3 => hk j o h1 (by omega) h3
    have hs1 : (hs (i + d + 1)).n = (hs (i + d)).n ∧ ∀ b, ((∃ x, (hs (i + d + 1)).m b = some x) ↔ ∃ x, (hs (i + d)).m b = some x) := by
      rcases kinds D ho with h | h | h
      · rw [st0 T ho h]; exact ⟨rfl, fun _ => Iff.rfl⟩
      · exact absurd h (hk (i + d) _ (by omega) (by omega) ho)
      · obtain ⟨h3, h4⟩ := st2 T ho h
        exact ⟨h3, h4⟩
    exact ⟨hs1.1.trans h1, fun b => (hs1.2 b).trans (h2 b)⟩

/-- slots along the text -/
theorem sig_none (T : Trace P te ops v ss hs) {t : Nat} : ∀ (i : Nat), i ≤ ops.size → (∀ (j : Nat) (o : Oper), j < i → ops[j]? = some o → o.dst ≠ some t) → ss i t = ss 0 t
  | 0, _, _ => rfl
  | i + 1, hle, h => by
    have ho : ops[i]? = some ops[i] := Array.getElem?_eq_getElem (by omega)
    rw [(T i _ ho).2]
    have hd := h i _ (by omega) ho
    have ih := sig_none T i (by omega) fun j o h1 h2 => h j o (by omega) h2
    cases hdd : ops[i].dst with
    | none => simpa [Upd] using ih
    | some d =>
      have : t ≠ d := fun e => hd (by rw [hdd, e])
      simpa [Upd, this] using ih
theorem sig_some (D : DOk ops) (T : Trace P te ops v ss hs) {t j : Nat} {oj : Oper} (hj : ops[j]? = some oj) (hd : oj.dst = some t) : ∀ (i : Nat), j < i → i ≤ ops.size → ss i t = v j
  | 0, h, _ => absurd h (Nat.not_lt_zero _)
  | i + 1, hji, hle => by
    have ho : ops[i]? = some ops[i] := Array.getElem?_eq_getElem (by omega)
    rw [(T i _ ho).2]
    by_cases e : j = i
    · subst e
      rw [hj] at ho; injection ho with ho; rw [← ho, hd]; simp [Upd]
    · have ih := sig_some D T hj hd i (by omega) (by omega)
      cases hdd : ops[i].dst with
      | none => simpa [Upd] using ih
      | some d =>
        have : t ≠ d := fun e' => D.one j i oj _ t (by omega) hj ho hd (by rw [hdd, e'])
        simpa [Upd, this] using ih
end

/-! ### The region in whatever order -/
abbrev Li (listed : Array Bool) (i : Nat) : Prop := listed.getD i false = true

structure DInv (ops : Array Oper) (N : Nat) (ds : List Deferred) (B : Nat) (v : Nat → AV) (hs : Nat → Heap) (σ : Slots) (ρ0 : Env) (w0 : World) (listed : Array Bool) (ρ : Env) (p : Nat) (a : Act) (w : World) : Prop where
  size : listed.size = ops.size
  cl : ∀ j i, Li listed j → waitsFor ops j i = true → Li listed i
  ple : p ≤ ops.size
  wr : ∀ (j : Nat) (o : Oper), ops[j]? = some o → opKind o.op = 2 → (Li listed j ↔ j < p)
  k1 : ∀ (j : Nat) (o : Oper), ops[j]? = some o → opKind o.op = 1 → j < p
  rel : Rel B ρ (hs p) w
  step : Step ρ0 (hs 0) w0 ρ ((hs p).wn (hs 0).n) w
  newb : ∀ (j : Nat) (o : Oper), ops[j]? = some o → opKind o.op = 1 → ¬ Li listed j → ∀ b, (hs j).n ≤ b → b < (hs (j + 1)).n → ρ b = .absent
  sl1 : ∀ (j : Nat) (o : Oper) (t : Tmp), ops[j]? = some o → o.dst = some t → Li listed j → CA (Rst ρ (hs (j + 1)).n) (v j) (a.tmps.getD t undef)
  sl0 : ∀ (t : Tmp), t < N → (∀ (j : Nat) (o : Oper), ops[j]? = some o → o.dst = some t → ¬ Li listed j) → CA (Rst ρ (hs 0).n) (σ t) (a.tmps.getD t undef)
  sz : a.tmps.size = N
  df : a.defers = ds

theorem li_set {listed : Array Bool} {i j : Nat} (hi : i < listed.size) : Li (listed.setIfInBounds i true) j ↔ j = i ∨ Li listed j := by
  by_cases e : i = j
  · subst e; simp [Li, hi]
  · rw [Li, getD_set_ne false e]
    constructor
    · intro h; exact .inr h
    · rintro (h | h)
      · exact absurd h.symm e
      · exact h

theorem put_tmps (a : Act) (d : Option Tmp) (rv : Value) (t : Tmp) (ht : t < a.tmps.size) : (a.put d rv).tmps.getD t undef = if d = some t then rv else a.tmps.getD t undef := by
  cases d with
  | none => rfl
  | some d =>
    simp only [Act.put]
    by_cases e : d = t
    · subst e; simp [ht]
    · simp [Array.getElem?_setIfInBounds_ne e, e]

section
variable {P : Program} {te : Nat → Option TI} {ops : Array Oper} {v : Nat → AV} {ss : Nat → Slots} {hs : Nat → Heap} {N B : Nat} {ds : List Deferred} {ρ0 ρ : Env} {w0 w : World} {listed : Array Bool} {p : Nat} {a : Act}

theorem dst_lt (hall : ops.toList.all (operOk N) = true) {j : Nat} {o : Oper} {d : Tmp} (ho : ops[j]? = some o) (hd : o.dst = some d) : d < N := by
  have := List.all_eq_true.1 hall o (Array.mem_toList_iff.2 (Array.mem_of_getElem? ho))
  simp only [operOk, Bool.and_eq_true] at this
  have h2 := this.2
  rw [hd] at h2
  simpa [dstOk] using h2

/-- what a ready operation looks at is what it is in the text's order -/
theorem DInv.look (D : DOk ops) (T : Trace P te ops v ss hs) (I : DInv ops N ds B v hs (ss 0) ρ0 w0 listed ρ p a w) {i : Nat} {o : Oper} (ho : ops[i]? = some o) (hli : ¬ Li listed i)
    (hrd : ∀ j, waitsFor ops i j = true → Li listed j) {t : Tmp} (ht : t ∈ looks ops o) (htN : t < N) : CA (Rst ρ (hs i).n) (ss i t) (a.tmps.getD t undef) := by
  have hlt : i < ops.size := (Array.getElem?_eq_some_iff.1 ho).1
  by_cases hex : ∃ (j : Nat) (oj : Oper), j < i ∧ ops[j]? = some oj ∧ oj.dst = some t
  · obtain ⟨j, oj, h1, h2, h3⟩ := hex
    rw [sig_some D T h2 h3 i h1 (by omega)]
    refine (I.sl1 j oj t h2 h3 (hrd j (D.raw j i oj o t h1 h2 ho h3 ht))).mono (Rst.mono ?_)
    have := (rangeD D T (i - (j + 1)) (j + 1) (by omega)).1
    rwa [show j + 1 + (i - (j + 1)) = i by omega] at this
  · rw [sig_none T i (by omega) fun j oj h1 h2 h3 => hex ⟨j, oj, h1, h2, h3⟩]
    refine (I.sl0 t htN fun j oj h2 h3 hj => ?_).mono (Rst.mono ?_)
    · rcases Nat.lt_trichotomy j i with h | h | h
      · exact hex ⟨j, oj, h, h2, h3⟩
      · subst h; exact hli hj
      · exact hli (I.cl j i hj (D.war i j o oj t h ho h2 h3 ht))
    · have := (rangeD D T i 0 (by omega)).1
      rwa [Nat.zero_add] at this

theorem DInv.next (D : DOk ops) (T : Trace P te ops v ss hs) (I : DInv ops N ds B v hs (ss 0) ρ0 w0 listed ρ p a w) (hall : ops.toList.all (operOk N) = true) {i : Nat} {o : Oper} (ho : ops[i]? = some o) (hli : ¬ Li listed i)
    (hrd : ∀ j, waitsFor ops i j = true → Li listed j) {p' : Nat} (hp1 : opKind o.op ≠ 2 → p' = p) (hp2 : opKind o.op = 2 → p' = i + 1) {ρ2 : Env} {w' : World} {rv : Value}
    (hrel : Rel B ρ2 (hs p') w') (hst : Step ρ ((hs p).wn (hs 0).n) w ρ2 ((hs p').wn (hs 0).n) w') (hv : CA (Rst ρ2 (hs (i + 1)).n) (v i) rv)
    (hnew : ∀ (j : Nat) (oj : Oper), ops[j]? = some oj → opKind oj.op = 1 → ¬ Li listed j → j ≠ i → ∀ b, (hs j).n ≤ b → b < (hs (j + 1)).n → ρ2 b = .absent) :
    DInv ops N ds B v hs (ss 0) ρ0 w0 (listed.setIfInBounds i true) ρ2 p' (a.put o.dst rv) w' := by
  have hlt : i < ops.size := (Array.getElem?_eq_some_iff.1 ho).1
  have hls : i < listed.size := by rw [I.size]; exact hlt
  have htm : ∀ t, t < N → (a.put o.dst rv).tmps.getD t undef = if o.dst = some t then rv else a.tmps.getD t undef := fun t ht => put_tmps a o.dst rv t (by rw [I.sz]; exact ht)
  refine ⟨by rw [Array.size_setIfInBounds]; exact I.size, ?_, ?_, ?_, ?_, hrel, I.step.trans hst, ?_, ?_, ?_, by rw [Act.put_size]; exact I.sz, by cases o.dst <;> exact I.df⟩
  · intro j k hj hw
    rw [li_set hls] at hj ⊢
    rcases hj with h | h
    · subst h; exact .inr (hrd k hw)
    · exact .inr (I.cl j k h hw)
  · by_cases h : opKind o.op = 2
    · rw [hp2 h]; omega
    · rw [hp1 h]; exact I.ple
  · intro j oj hj hk
    rw [li_set hls]
    by_cases h : opKind o.op = 2
    · rw [hp2 h]
      constructor
      · rintro (e | e)
        · omega
        · rcases Nat.lt_trichotomy j i with h1 | h1 | h1
          · omega
          · omega
          · exact absurd (I.cl j i e (D.w2 i j o oj h1 ho hj h hk)) hli
      · intro h1
        by_cases e : j = i
        · exact .inl e
        · exact .inr (hrd j (D.w2 j i oj o (by omega) hj ho hk h))
    · rw [hp1 h]
      constructor
      · rintro (e | e)
        · subst e; rw [hj] at ho; injection ho with ho; subst ho; exact absurd hk h
        · exact (I.wr j oj hj hk).1 e
      · intro h1; exact .inr ((I.wr j oj hj hk).2 h1)
  · intro j oj hj hk
    by_cases h : opKind o.op = 2
    · rw [hp2 h]
      rcases Nat.lt_trichotomy j i with h1 | h1 | h1
      · omega
      · omega
      · exact absurd hk (D.w1 i j o oj h1 ho hj h)
    · rw [hp1 h]; exact I.k1 j oj hj hk
  · intro j oj hj hk hl
    rw [li_set hls] at hl
    exact hnew j oj hj hk (fun h => hl (.inr h)) (fun h => hl (.inl h))
  · intro j oj t hj hd hl
    have htN := dst_lt hall hj hd
    rw [htm t htN]
    rw [li_set hls] at hl
    by_cases e : j = i
    · subst e
      rw [hj] at ho; injection ho with ho; subst ho
      rw [if_pos hd]; exact hv
    · have hne : ¬ o.dst = some t := fun h => by
        rcases Nat.lt_or_ge i j with h1 | h1
        · exact D.one i j o oj t h1 ho hj h hd
        · exact D.one j i oj o t (by omega) hj ho hd h
      rw [if_neg hne]
      exact (I.sl1 j oj t hj hd (hl.resolve_left e)).mono (Rst.le2 hst.le)
  · intro t ht hno
    rw [htm t ht]
    have hne : ¬ o.dst = some t := fun h => hno i o ho h ((li_set hls).2 (.inl rfl))
    rw [if_neg hne]
    exact (I.sl0 t ht fun j oj hj hd hl => hno j oj hj hd ((li_set hls).2 (.inr hl))).mono (Rst.le2 hst.le)

theorem wn_own {H : Heap} {n k : Nat} : Own ρ (H.wn n) k ↔ Own ρ H k := Iff.rfl

/-- a ready operation -/
theorem DInv.op (hte : TEok P te) (D : DOk ops) (T : Trace P te ops v ss hs) (hall : ops.toList.all (operOk N) = true) (h0 : Rel B ρ0 (hs 0) w0) (I : DInv ops N ds B v hs (ss 0) ρ0 w0 listed ρ p a w) {i : Nat} {o : Oper} (ho : ops[i]? = some o) (hli : ¬ Li listed i)
    (hrd : ∀ j, waitsFor ops i j = true → Li listed j) {ro : Option Nat} {n : Nat} {K : Act → World → Prop} {Q : Exit → Act → World → Prop}
    (hK : ∀ ρ2 p' a' w', DInv ops N ds B v hs (ss 0) ρ0 w0 (listed.setIfInBounds i true) ρ2 p' a' w' → K a' w') : wpOpIn (FW ro) n P ops Q i K a w := by
  have hlt : i < ops.size := (Array.getElem?_eq_some_iff.1 ho).1
  have hmem : o ∈ ops.toList := Array.mem_toList_iff.2 (Array.mem_of_getElem? ho)
  have hok := List.all_eq_true.1 hall o hmem
  simp only [operOk, Bool.and_eq_true, List.all_eq_true] at hok
  have hx : ∀ x ∈ o.op.operands.toList, CA (Rst ρ (hs i).n) (ev (ss i) x) (a.eval x) := fun x hx => ev_ok fun t ht => by
    subst ht
    have h1 := hok.1 _ hx
    refine I.look D T ho hli hrd ?_ (by simpa [opdOk] using h1)
    exact List.mem_append_left _ (List.mem_filterMap.2 ⟨.tmp t, hx, rfl⟩)
  have hw : ∀ b, wantedA ops (ss i) o = some b → Region.wanted o (yielded ops a.tmps) = b := by
    intro b hb
    cases hg : o.guard with
    | none =>
      simp only [wantedA, hg] at hb
      simpa [Region.wanted, hg] using hb
    | some g =>
      obtain ⟨j, want⟩ := g
      refine wanted_ok (ρ := Rst ρ (hs i).n) hb fun d hd => ?_
      simp only [hg, Option.map_some, Option.getD_some] at hd
      have hdN : d < N := by
        rw [Option.bind_eq_some_iff] at hd
        obtain ⟨oj, h1, h2⟩ := hd
        exact dst_lt hall h1 h2
      refine ⟨by rw [I.sz]; exact hdN, I.look D T ho hli hrd ?_ hdN⟩
      refine List.mem_append_right _ ?_
      rw [hg]; simp only
      rw [hd]; simp
  have hi0 := rangeD D T i 0 (by omega)
  rw [Nat.zero_add] at hi0
  have n0i := hi0.1
  -- writers come last
  have hs2 : opKind o.op = 2 → p ≤ i ∧ hs i = hs p := fun hk => by
    have hpi : p ≤ i := by
      rcases Nat.lt_or_ge i p with h | h
      · exact absurd ((I.wr i o ho hk).2 h) hli
      · exact h
    refine ⟨hpi, ?_⟩
    have := range0 D T (i - p) p (by omega) fun j oj h1 h2 h3 => by
      rcases kinds D h3 with h | h | h
      · exact h
      · have := I.k1 j oj h3 h; omega
      · have := (I.wr j oj h3 h).1 (hrd j (D.w2 j i oj o (by omega) h3 ho h hk)); omega
    rwa [show p + (i - p) = i by omega] at this
  have hno1 : opKind o.op = 2 → ∀ (j : Nat) (oj : Oper), ops[j]? = some oj → opKind oj.op = 1 → ¬ Li listed j → False := fun hk j oj hj hk1 hl => by
    rcases Nat.lt_trichotomy j i with h1 | h1 | h1
    · exact hl (hrd j (D.rw j i oj o h1 hj ho hk1 hk))
    · subst h1; rw [hj] at ho; injection ho with ho; subst ho; omega
    · exact absurd hk1 (D.w1 i j o oj h1 ho hj hk)
  -- heaps of those that make memory
  have hs1 : opKind o.op = 1 → HExtR (hs 0) (hs i) ∧ HExtR (hs i) (hs (i + 1)) ∧ HExtR (hs (i + 1)) (hs p) := fun hk => by
    have hip := I.k1 i o ho hk
    have hno : ∀ (j : Nat) (oj : Oper), j < p → ops[j]? = some oj → opKind oj.op ≠ 2 := fun j oj hj h hk2 => by
      have hl := (I.wr j oj h hk2).2 hj
      rcases Nat.lt_trichotomy j i with h1 | h1 | h1
      · exact D.w1 j i oj o h1 h ho hk2 hk
      · subst h1; exact hli hl
      · exact hli (I.cl j i hl (D.rw i j o oj h1 ho h hk hk2))
    have ple := I.ple
    refine ⟨?_, st1 T ho hk, ?_⟩
    · have := rangeX D T i 0 (by omega) fun j oj _ h2 h3 => hno j oj (by omega) h3
      rwa [Nat.zero_add] at this
    · have := rangeX D T (p - (i + 1)) (i + 1) (by omega) fun j oj _ h2 h3 => hno j oj (by omega) h3
      rwa [show i + 1 + (p - (i + 1)) = p by omega] at this
  -- what lives
  have hdom : opKind o.op = 0 → (hs i).n ≤ (hs p).n ∧ ∀ b, b < (hs i).n → ((∃ x, (hs p).m b = some x) ↔ ∃ x, (hs i).m b = some x) := fun hk => by
    rcases Nat.lt_or_ge p i with h | h
    · have := rangeB D T (i - p) p (by omega) fun j oj h1 h2 h3 hk1 => by have := I.k1 j oj h3 hk1; omega
      rw [show p + (i - p) = i by omega] at this
      exact ⟨Nat.le_of_eq this.1, fun b _ => (this.2 b).symm⟩
    · have := rangeD D T (p - i) i (by have := I.ple; omega)
      rwa [show i + (p - i) = p by omega] at this
  have nmono : ∀ j k, j ≤ k → k ≤ ops.size → (hs j).n ≤ (hs k).n := fun j k h1 h2 => by
    have := (rangeD D T (k - j) j (by omega)).1
    rwa [show j + (k - j) = k by omega] at this
  have newn : ∀ {ρ2 : Env} {n1 : Nat}, (hs i).n ≤ n1 → n1 ≤ (hs (i + 1)).n → (∀ b, n1 ≤ b → ρ2 b = ρ b) → (∀ b, b < (hs i).n → ρ b = .absent → ρ2 b = .absent) →
      ∀ (j : Nat) (oj : Oper), ops[j]? = some oj → opKind oj.op = 1 → ¬ Li listed j → j ≠ i → ∀ b, (hs j).n ≤ b → b < (hs (j + 1)).n → ρ2 b = .absent := by
    intro ρ2 n1 hn1 hn2 e2 habs j oj hj hk hl hne b hb1 hb2
    have hab := I.newb j oj hj hk hl b hb1 hb2
    have hjs : j < ops.size := (Array.getElem?_eq_some_iff.1 hj).1
    rcases Nat.lt_or_ge j i with h1 | h1
    · have := nmono (j + 1) i (by omega) (by omega)
      exact habs b (by omega) hab
    · have := nmono (i + 1) j (by omega) (by omega)
      rw [e2 b (by omega)]; exact hab
  unfold wpOpIn
  simp only [ho]
  rcases (T i o ho).1 with ⟨hwf, hv, hh⟩ | ⟨hwt, hrun⟩
  · -- not wanted
    rw [hw _ hwf]
    simp only [Bool.false_eq_true, if_false]
    refine ⟨fun _ _ => trivial, ?_⟩
    by_cases hk : opKind o.op = 2
    · obtain ⟨hpi, he⟩ := hs2 hk
      refine hK ρ (i + 1) _ w (I.next D T hall ho hli hrd (p' := i + 1) (fun h => absurd hk h) (fun _ => rfl) (by rw [hh, he]; exact I.rel) (by rw [hh, he]; exact Step.refl _ _ _) (by rw [hv]; exact ⟨[], trivial, rfl⟩) fun j oj hj hk1 hl => (hno1 hk j oj hj hk1 hl).elim)
    · exact hK ρ p _ w (I.next D T hall ho hli hrd (p' := p) (fun _ => rfl) (fun h => absurd h hk) I.rel (Step.refl _ _ _) (by rw [hv]; exact ⟨[], trivial, rfl⟩) fun j oj hj hk1 hl _ => I.newb j oj hj hk1 hl)
  · rw [hw _ hwt]
    simp only [if_true]
    rcases hrun with ⟨f, args, hc, hac, _⟩ | ⟨hop, _, _⟩
    · -- a call
      have hk := callOf_kind hc
      obtain ⟨x0, x1, x2⟩ := hs1 hk
      refine oper_wp_call (frame1 h0 x0 (x1.trans x2) I.step I.rel) hx hc hac fun rv w' ρ' r H' hR h1 h2 h3 => ?_
      obtain ⟨rfl, rfl⟩ := hR
      obtain ⟨ρ2, g1, g2, g3, g4, g5⟩ := frame1' x0 x1 x2 I.rel (fun b => I.newb i o ho hk hli b) h2 h3
      exact hK ρ2 p _ w' (I.next D T hall ho hli hrd (p' := p) (fun _ => rfl) (fun h => by omega) g1 g2 (h1.mono g3) (newn x1.1 (Nat.le_refl _) g4 g5))
    · rcases kinds D ho with hk | hk | hk
      · obtain ⟨hn, hd⟩ := hdom hk
        have he := st0 T ho hk
        refine oper_wp_op hte (frame0 (fun b hb h => (hd b hb).2 h) I.rel) hx (aop_bare hk hop he) fun rv w' ρ' h1 h2 h3 => ?_
        obtain ⟨ρ2, g1, g2, g3, g4, g5⟩ := frame0' n0i hn (fun b hb h => (hd b hb).1 h) I.rel h2 h3
        exact hK ρ2 p _ w' (I.next D T hall ho hli hrd (p' := p) (fun _ => rfl) (fun h => by omega) g1 g2 (by rw [he]; exact h1.mono g3) (newn (Nat.le_refl _) (by rw [he]; exact Nat.le_refl _) g4 g5))
      · obtain ⟨x0, x1, x2⟩ := hs1 hk
        refine oper_wp_op hte (frame1 h0 x0 (x1.trans x2) I.step I.rel) hx hop fun rv w' ρ' h1 h2 h3 => ?_
        obtain ⟨ρ2, g1, g2, g3, g4, g5⟩ := frame1' x0 x1 x2 I.rel (fun b => I.newb i o ho hk hli b) h2 h3
        exact hK ρ2 p _ w' (I.next D T hall ho hli hrd (p' := p) (fun _ => rfl) (fun h => by omega) g1 g2 (h1.mono g3) (newn x1.1 (Nat.le_refl _) g4 g5))
      · obtain ⟨hpi, he⟩ := hs2 hk
        refine oper_wp_op hte (ρ := ρ) (H := hs i) (by rw [he]; exact I.rel) (fun x h => (hx x h).mono Rst.le) hop fun rv w' ρ' h1 h2 h3 => ?_
        refine hK ρ' (i + 1) _ w' (I.next D T hall ho hli hrd (p' := i + 1) (fun h => absurd hk h) (fun _ => rfl) h2 ?_ (by rw [(store_dom hk hop).1]; trivial) fun j oj hj hk1 hl => (hno1 hk j oj hj hk1 hl).elim)
        rw [← he]
        exact ⟨h3.os, h3.tape, h3.output, h3.size, h3.keep, h3.own, h3.le, h3.new, Nat.le_refl _, fun b hb ha => h3.abs b (Nat.lt_of_lt_of_le hb n0i) ha, h3.memn⟩

theorem waits_of {i j : Nat} {o : Oper} (ho : ops[i]? = some o) (h : ∀ e ∈ o.after, Region.binds .any e = true → listed.getD e.on false = true) (hw : waitsFor ops i j = true) : Li listed j := by
  simp only [waitsFor, ho, List.any_eq_true, Bool.and_eq_true, beq_iff_eq] at hw
  obtain ⟨e, h1, h2, rfl⟩ := hw
  exact h e (Array.mem_toList_iff.1 h1) h2

theorem getD_tf {listed : Array Bool} {i : Nat} (h : i < listed.size) : listed.getD i true = listed.getD i false := by simp [h]

theorem DInv.all (D : DOk ops) (hsz : listed.size = ops.size) (h : Region.ready .any ops listed = []) : ∀ i, i < ops.size → Li listed i := by
  intro i
  induction i using Nat.strongRecOn with
  | _ i ih =>
    intro hi
    by_cases hl : Li listed i
    · exact hl
    · exfalso
      have : i ∈ Region.ready .any ops listed := by
        rw [mem_ready]
        refine ⟨?_, ops[i], Array.getElem?_eq_getElem hi, fun e he hb => ?_⟩
        · rw [getD_tf (by omega)]
          cases hh : listed.getD i false with
          | false => rfl
          | true => exact absurd hh hl
        · have := D.back i _ e (Array.getElem?_eq_getElem hi) he hb
          exact ih e.on this (by omega)
      rw [h] at this; cases this

theorem DInv.any (hte : TEok P te) (D : DOk ops) (T : Trace P te ops v ss hs) (hall : ops.toList.all (operOk N) = true) (h0 : Rel B ρ0 (hs 0) w0) {ro : Option Nat} {n : Nat} {Q : Exit → Act → World → Prop}
    (hQ : ∀ listed ρ p a w, DInv ops N ds B v hs (ss 0) ρ0 w0 listed ρ p a w → (∀ i, i < ops.size → Li listed i) → Q .normal a w) :
    ∀ (fuel : Nat) (l : List Nat) (listed : Array Bool) (ρ : Env) (p : Nat) (a : Act) (w : World), l.length ≤ fuel → (∀ i, i < ops.size → ¬ Li listed i → i ∈ l) → DInv ops N ds B v hs (ss 0) ρ0 w0 listed ρ p a w → wpAnyIn (FW ro) n P .any ops Q fuel listed a w
  | 0, l, listed, ρ, p, a, w, hl, hm, I => by
    have hnil : l = [] := List.length_eq_zero_iff.1 (by omega)
    have hallL : ∀ i, i < ops.size → Li listed i := fun i hi => by
      by_cases h : Li listed i
      · exact h
      · have := hm i hi h; rw [hnil] at this; cases this
    refine ⟨?_, hQ _ _ _ _ _ I hallL⟩
    refine List.eq_nil_iff_forall_not_mem.2 fun i hi => ?_
    obtain ⟨h1, o, ho, _⟩ := mem_ready.1 hi
    have hlt : i < ops.size := (Array.getElem?_eq_some_iff.1 ho).1
    rw [getD_tf (by rw [I.size]; exact hlt)] at h1
    have := hallL i hlt
    rw [Li, h1] at this; cases this
  | fuel + 1, l, listed, ρ, p, a, w, hl, hm, I => by
    refine ⟨fun h => hQ _ _ _ _ _ I (DInv.all D I.size h), fun i hi => ?_⟩
    obtain ⟨h1, o, ho, hall'⟩ := mem_ready.1 hi
    have hlt : i < ops.size := (Array.getElem?_eq_some_iff.1 ho).1
    have hls : i < listed.size := by rw [I.size]; exact hlt
    rw [getD_tf hls] at h1
    have hli : ¬ Li listed i := fun h => by rw [Li, h1] at h; cases h
    refine I.op hte D T hall h0 ho hli (fun j hj => waits_of ho hall' hj) fun ρ2 p' a' w' I' => ?_
    have hmi := hm i hlt hli
    refine DInv.any hte D T hall h0 hQ fuel (l.erase i) _ ρ2 p' a' w' (by rw [List.length_erase_of_mem hmi]; omega) (fun j hj hlj => ?_) I'
    rw [li_set hls] at hlj
    have hji : j ≠ i := fun h => hlj (.inl h)
    exact (List.mem_erase_of_ne hji).2 (hm j hj fun h => hlj (.inr h))
end

section
variable {P : Program} {te : Nat → Option TI} {B N : Nat} {ds : List Deferred}
theorem vd_ok (hte : TEok P te) (hmx : P.follows .mixedOrders = true) {ro : Option Nat} {n : Nat} {id : Nat} {ops : Array Oper} (hall : ops.toList.all (operOk N) = true) (hd : drawOk ops = true)
    {σ : Slots} {H : Heap} {ρ : Env} {a : Act} {w : World} {Q : Exit → Slots → Heap → Prop} (hf : Fits B N ds ρ σ H a w) (hv : VD P te ops ops.toList σ H (Q .normal)) :
    (Code.region id ops true).wpIn (FW ro) n P (QC B N ds ρ H w Q) a w := by
  have D := dok_of hd
  obtain ⟨v, ss, hs, rfl, rfl, hK, hT⟩ := vd_trace ops.toList 0 rfl (Nat.zero_le _) σ H hv
  have T : Trace P te ops v ss hs := fun i o ho => hT i o (Nat.zero_le _) ho
  refine wpIn_region_any hmx ?_
  -- the first writer
  have hp : ∃ p, p ≤ ops.size ∧ (∀ (j : Nat) (o : Oper), j < p → ops[j]? = some o → opKind o.op ≠ 2) ∧ (∀ (j : Nat) (o : Oper), ops[j]? = some o → opKind o.op = 1 → j < p) := by
    have key : ∀ d, d ≤ ops.size → (∀ (j : Nat) (o : Oper), j < d → ops[j]? = some o → opKind o.op ≠ 2) ∨ ∃ p, p < d ∧ (∃ o, ops[p]? = some o ∧ opKind o.op = 2) ∧ (∀ (j : Nat) (o : Oper), j < p → ops[j]? = some o → opKind o.op ≠ 2) := by
      intro d
      induction d with
      | zero => intro _; exact .inl fun j o h => absurd h (Nat.not_lt_zero _)
      | succ d ih =>
        intro hle
        rcases ih (by omega) with h | ⟨p, h1, h2⟩
        · have ho : ops[d]? = some ops[d] := Array.getElem?_eq_getElem (by omega)
          by_cases hk : opKind ops[d].op = 2
          · exact .inr ⟨d, by omega, ⟨_, ho, hk⟩, h⟩
          · refine .inl fun j o hj h3 => ?_
            by_cases e : j = d
            · subst e; rw [h3] at ho; injection ho with ho; rw [ho]; exact hk
            · exact h j o (by omega) h3
        · exact .inr ⟨p, by omega, h2⟩
    rcases key ops.size (Nat.le_refl _) with h | ⟨p, h1, ⟨o, h2, h3⟩, h4⟩
    · exact ⟨ops.size, Nat.le_refl _, h, fun j o hj _ => (Array.getElem?_eq_some_iff.1 hj).1⟩
    · refine ⟨p, by omega, h4, fun j oj hj hk => ?_⟩
      rcases Nat.lt_trichotomy j p with g | g | g
      · exact g
      · subst g; rw [hj] at h2; injection h2 with h2; subst h2; omega
      · exact absurd hk (D.w1 p j o oj g h2 hj h3)
  obtain ⟨p, hple, hnw, hk1⟩ := hp
  have hX := rangeX D T p 0 (by omega) fun j o _ h2 h3 => hnw j o (by omega) h3
  rw [Nat.zero_add] at hX
  have hr := hf.1
  have hnone : ∀ j, ¬ Li (Array.replicate ops.size false) j := fun j h => by
    rcases Nat.lt_or_ge j ops.size with g | g
    · simp [Li, g] at h
    · simp [Li, Nat.not_lt.2 g] at h
  have lt0 : ∀ {b}, ρ b ≠ .absent → b < (hs 0).n := fun h => hr.lt' h
  have I : DInv ops N ds B v hs (ss 0) ρ w (Array.replicate ops.size false) ρ p a { w with drawn := w.drawn + 1 } := by
    refine ⟨by simp, fun j i h => absurd h (hnone j), hple, fun j o hj hk => ⟨fun h => absurd h (hnone j), fun h => absurd hk (hnw j o h hj)⟩, hk1, ?_, ?_, ?_, fun j o t hj hd' h => absurd h (hnone j), ?_, hf.2.2.1, hf.2.2.2⟩
    · refine Rel.drew ?_ _
      refine ⟨⟨hr.hB, fun b hb => hr.fresh b (Nat.le_trans hX.1 hb), ?_, ?_, ?_⟩, fun cb j v hv => ⟨(hr.imm cb j v hv).1, fun ⟨b, co, cc, x, g1, g2, g3⟩ => (hr.imm cb j v hv).2 ⟨b, co, cc, x, g1, by rw [← hX.2.1 b (lt0 (by rw [g1]; exact fun h => by cases h))]; exact g2, g3⟩⟩⟩
      · intro b x hb
        rcases Nat.lt_or_ge b (hs 0).n with h | h
        · exact hr.live b x (by rw [← hX.2.1 b h]; exact hb)
        · rw [hr.fresh b h]; exact fun h => by cases h
      · intro b cb co cc x hb hm
        have hl := lt0 (b := b) (by rw [hb]; exact fun h => by cases h)
        exact hr.blk b cb co cc x hb (by rw [← hX.2.1 b hl]; exact hm)
      · intro b b' cb co cc co' cc' x x' hne g1 g2 g3 g4
        have l1 := lt0 (b := b) (by rw [g1]; exact fun h => by cases h)
        have l2 := lt0 (b := b') (by rw [g2]; exact fun h => by cases h)
        exact hr.sep b b' cb co cc co' cc' x x' hne g1 g2 (by rw [← hX.2.1 b l1]; exact g3) (by rw [← hX.2.1 b' l2]; exact g4)
    · refine ⟨rfl, rfl, rfl, Nat.le_refl _, fun _ _ _ => rfl, ?_, Le.refl _, fun b cb co cc h h' => (by rw [h] at h'; cases h'), Nat.le_refl _, fun _ _ h => h, fun _ _ _ h => .inl h⟩
      rintro k ⟨b, co, cc, x, g1, g2, g3⟩
      have l1 := lt0 (b := b) (by rw [g1]; exact fun h => by cases h)
      exact .inl ⟨b, co, cc, x, g1, by rw [← hX.2.1 b l1]; exact g2, g3⟩
    · intro j o hj hk _ b hb _
      have := (rangeD D T j 0 (by have := (Array.getElem?_eq_some_iff.1 hj).1; omega)).1
      rw [Nat.zero_add] at this
      exact hr.fresh b (Nat.le_trans this hb)
    · intro t ht _
      refine (hf.2.1 t (by rw [hf.2.2.1]; exact ht)).mono (show Le ρ (Rst ρ (hs 0).n) from ⟨fun b => ?_, fun _ _ _ h => h⟩)
      rcases Nat.lt_or_ge b (hs 0).n with h | h
      · rw [Rst.lt h]; exact .inr (.inl rfl)
      · exact .inl (hr.fresh b h)
  refine DInv.any hte D T hall hr (fun listed ρ' p' a' w' I' hL => ?_) ops.size (List.range ops.size) _ ρ p a _ (by simp) (fun i hi _ => List.mem_range.2 hi) I
  have hend : hs ops.size = hs p' := by
    have := range0 D T (ops.size - p') p' (by have := I'.ple; omega) fun j oj h1 h2 h3 => by
      rcases kinds D h3 with h | h | h
      · exact h
      · have := I'.k1 j oj h3 h; omega
      · have := (I'.wr j oj h3 h).1 (hL j (Array.getElem?_eq_some_iff.1 h3).1); omega
    rwa [show p' + (ops.size - p') = ops.size by have := I'.ple; omega] at this
  have hn0 := (rangeD D T ops.size 0 (by omega)).1
  rw [Nat.zero_add] at hn0
  refine ⟨ρ', ss ops.size, hs ops.size, ?_, ⟨by rw [hend]; exact I'.rel, ?_, I'.sz, I'.df⟩, hK⟩
  · have h3 := I'.step
    rw [← hend] at h3
    exact ⟨h3.os, h3.tape, h3.output, h3.size, h3.keep, h3.own, h3.le, h3.new, hn0, h3.abs, h3.memn⟩
  · intro t ht
    rw [I'.sz] at ht
    by_cases hex : ∃ (j : Nat) (oj : Oper), ops[j]? = some oj ∧ oj.dst = some t
    · obtain ⟨j, oj, h1, h2⟩ := hex
      have hjs := (Array.getElem?_eq_some_iff.1 h1).1
      rw [sig_some D T h1 h2 ops.size hjs (Nat.le_refl _)]
      exact (I'.sl1 j oj t h1 h2 (hL j hjs)).mono Rst.le
    · rw [sig_none T ops.size (Nat.le_refl _) fun j oj _ h1 h2 => hex ⟨j, oj, h1, h2⟩]
      exact (I'.sl0 t ht fun j oj h1 h2 => absurd ⟨j, oj, h1, h2⟩ hex).mono Rst.le
end
end Go.Abs
