/-
  One operation on the abstract heap.
-/
import Derived.Test.YtcgogenmikakkaaAbs3
import Derived.WalkSpells
namespace Go.Abs
set_option linter.unusedVariables false
set_option linter.unusedSimpArgs false
open Go.RowKit

abbrev Slots := Nat → AV

def ev (σ : Slots) : Operand → AV
  | .tmp t => σ t
  | .const v => if scal v = true then .s (.raw v) else .any
  | .func f => .s (.fn f [])
  | .global _ => .any

def Upd (σ : Slots) (d : Option Tmp) (v : AV) : Slots :=
  match d with
  | some d => fun t => if t = d then v else σ t
  | none => σ

def SlotsR (ρ : Env) (σ : Slots) (tmps : Array Value) : Prop := ∀ t, t < tmps.size → CA ρ (σ t) (tmps.getD t undef)

theorem ev_ok {ρ : Env} {σ : Slots} {a : Act} {x : Operand} (h : ∀ t, x = .tmp t → CA ρ (σ t) (a.tmps.getD t undef)) : CA ρ (ev σ x) (a.eval x) := by
  cases x with
  | tmp t => exact h t rfl
  | const v =>
    simp only [ev, Act.eval]
    split
    · rename_i hs; exact ⟨rfl, hs⟩
    · trivial
  | func f => exact ⟨[], trivial, rfl⟩
  | global g => trivial

theorem SlotsR.mono {ρ ρ' : Env} {σ : Slots} {tmps : Array Value} (h : SlotsR ρ σ tmps) (hl : Le ρ ρ') : SlotsR ρ' σ tmps := fun t ht => (h t ht).mono hl

theorem SlotsR.put {ρ : Env} {σ : Slots} {a : Act} (h : SlotsR ρ σ a.tmps) {d : Option Tmp} {v : AV} {cv : Value} (hv : CA ρ v cv) : SlotsR ρ (Upd σ d v) (a.put d cv).tmps := by
  cases d with
  | none => exact h
  | some d =>
    intro t ht
    simp only [Act.put, Array.size_setIfInBounds] at ht
    simp only [Upd, Act.put]
    by_cases e : t = d
    · subst e
      simp [Array.getD, ht, hv]
    · simp only [e, if_false]
      have := h t ht
      simp [Array.getD, ht] at this ⊢
      rw [Array.getElem_setIfInBounds_ne (by simpa using ht) (by omega)]
      exact this

theorem Act.put_size (a : Act) (d : Option Tmp) (v : Value) : (a.put d v).tmps.size = a.tmps.size := by
  cases d <;> simp [Act.put]

/-! ### Numbers -/
def aint (op : BinOp) (k : IntKind) (x y : Int) : Option Value :=
  match op with
  | .add => some (.int k (k.wrap (x + y)))
  | .sub => some (.int k (k.wrap (x - y)))
  | .mul => some (.int k (k.wrap (x * y)))
  | .quo => if y = 0 then none else some (.int k (k.wrap (x.tdiv y)))
  | .rem => if y = 0 then none else some (.int k (x.tmod y))
  | .and => some (.int k (k.wrap (BitVec.ofInt k.bits x &&& BitVec.ofInt k.bits y).toNat))
  | .or => some (.int k (k.wrap (BitVec.ofInt k.bits x ||| BitVec.ofInt k.bits y).toNat))
  | .xor => some (.int k (k.wrap (BitVec.ofInt k.bits x ^^^ BitVec.ofInt k.bits y).toNat))
  | .andNot => some (.int k (k.wrap (BitVec.ofInt k.bits x &&& ~~~ BitVec.ofInt k.bits y).toNat))
  | .eql => some (.bool (x == y))
  | .neq => some (.bool (x != y))
  | .lss => some (.bool (x < y))
  | .leq => some (.bool (x ≤ y))
  | .gtr => some (.bool (x > y))
  | .geq => some (.bool (x ≥ y))
  | .shl => none
  | .shr => none

def rawL : List SV → Option (List Value)
  | [] => some []
  | .raw v :: xs => (rawL xs).map (v :: ·)
  | _ :: _ => none

theorem rawL_ok {ρ : Env} : ∀ {xs : List SV} {vs us : List Value}, rawL xs = some us → Al2 (CS ρ) xs vs → vs = us
  | [], [], us, h, _ => by simp [rawL] at h; exact h.symm ▸ rfl
  | .raw v :: xs, u :: vs, us, h, hh => by
    simp only [rawL, Option.map_eq_some_iff] at h
    obtain ⟨ws, h1, rfl⟩ := h
    obtain ⟨h2, h3⟩ := hh
    obtain ⟨rfl, _⟩ := h2
    rw [rawL_ok h1 h3]
  | .sl .. :: _, _ :: _, _, h, _ => by simp [rawL] at h
  | .ptr .. :: _, _ :: _, _, h, _ => by simp [rawL] at h
  | .fn .. :: _, _ :: _, _, h, _ => by simp [rawL] at h
  | .vs .. :: _, _ :: _, _, h, _ => by simp [rawL] at h
  | .vp .. :: _, _ :: _, _, h, _ => by simp [rawL] at h
  | .ve :: _, _ :: _, _, h, _ => by simp [rawL] at h
  | [], _ :: _, _, _, hh => hh.elim
  | _ :: _, [], _, _, hh => hh.elim

def abin (te : Nat → Option TI) (H : Heap) (op : BinOp) (t : Nat) (x y : AV) : Option AV :=
  match x, y with
  | .s (.raw (.int k a)), .s (.raw (.int k' b)) => if k = k' then (aint op k a b).map fun v => .s (.raw v) else none
  | .s (.raw (.bool a)), .s (.raw (.bool b)) =>
    match te t, op with
    | some ⟨_, _, .bool, _, _⟩, .eql => some (.s (.raw (.bool (a == b))))
    | some ⟨_, _, .bool, _, _⟩, .neq => some (.s (.raw (.bool (!(a == b)))))
    | _, _ => none
  | .s (.sl b _ _ _), .s (.raw (.slice none 0 0)) =>
    match te t, op, H.m b with
    | some ⟨_, _, .sli _, _, _⟩, .eql, some _ => some (.s (.raw (.bool false)))
    | some ⟨_, _, .sli _, _, _⟩, .neq, some _ => some (.s (.raw (.bool true)))
    | _, _, _ => none
  | .s (.raw (.slice none 0 0)), .s (.raw (.slice none 0 0)) =>
    match te t, op with
    | some ⟨_, _, .sli _, _, _⟩, .eql => some (.s (.raw (.bool true)))
    | some ⟨_, _, .sli _, _, _⟩, .neq => some (.s (.raw (.bool false)))
    | _, _ => none
  | .s (.vs n _), .s (.raw (.slice none 0 0)) =>
    if n = 0 then none else
    match te t, op with
    | some ⟨_, _, .sli _, _, _⟩, .eql => some (.s (.raw (.bool false)))
    | some ⟨_, _, .sli _, _, _⟩, .neq => some (.s (.raw (.bool true)))
    | _, _ => none
  | .s .ve, .s (.raw (.slice none 0 0)) =>
    match te t, op with
    | some ⟨_, _, .sli _, _, _⟩, .eql => some (.s (.raw (.bool false)))
    | some ⟨_, _, .sli _, _, _⟩, .neq => some (.s (.raw (.bool true)))
    | _, _ => none
  | .agg xs, .agg ys =>
    match te t, rawL xs, rawL ys, op with
    | some ti, some us, some vs, .eql => if ti.cmp = true ∧ shapeL ti.zero us = true ∧ shapeL ti.zero vs = true then some (.s (.raw (.bool (eqL us vs)))) else none
    | some ti, some us, some vs, .neq => if ti.cmp = true ∧ shapeL ti.zero us = true ∧ shapeL ti.zero vs = true then some (.s (.raw (.bool (!(eqL us vs))))) else none
    | _, _, _, _ => none
  | _, _ => none

theorem aint_ok {P : Program} {w : World} {op : BinOp} {k : IntKind} {a b : Int} {v : Value} {t : Nat} {x y : Operand} (h : aint op k a b = some v) :
    (do eqGuard op t x y (.int k a) (.int k b); binOp op t (.int k a) (.int k b) : Sem Value).run P w = .ok v w ∧ scal v = true := by
  cases op <;> simp only [aint] at h <;> first
    | (injection h with h; subst h; constructor <;> first | rfl | (simp [eqGuard_at_int, binOp, Op.intArith, Op.intBits, Op.intCmp, Op.intDiv]; done))
    | (split at h
       · cases h
       · rename_i h0
         injection h with h; subst h; constructor <;> first | rfl | (simp [eqGuard_at_int, binOp, Op.intDiv, h0]; done))
    | cases h

theorem abin_ok {P : Program} {te : Nat → Option TI} (hte : TEok P te) {B : Nat} {ρ : Env} {H : Heap} {w : World} (hr : Rel B ρ H w) {op : BinOp} {t : Nat} {x y : Operand} {av bv r : AV} {xv yv : Value}
    (hx : CA ρ av xv) (hy : CA ρ bv yv) (h : abin te H op t av bv = some r) :
    ∃ v, (do eqGuard op t x y xv yv; binOp op t xv yv : Sem Value).run P w = .ok v w ∧ CA ρ r v := by
  unfold abin at h
  split at h
  · rename_i k a k' b
    obtain ⟨rfl, _⟩ := hx
    obtain ⟨rfl, _⟩ := hy
    split at h
    · rename_i hk; subst hk
      rw [Option.map_eq_some_iff] at h
      obtain ⟨v, h1, rfl⟩ := h
      obtain ⟨h2, h3⟩ := aint_ok (P := P) (w := w) (t := t) (x := x) (y := y) h1
      exact ⟨v, h2, rfl, h3⟩
    · cases h
  · rename_i a b
    obtain ⟨rfl, _⟩ := hx
    obtain ⟨rfl, _⟩ := hy
    split at h
    · rename_i ht
      injection h with h; subst h
      exact ⟨_, by simp [eqGuard_at_bool, run_eql_bool w t a b (hte _ _ ht).kind], rfl, rfl⟩
    · rename_i ht
      injection h with h; subst h
      exact ⟨_, by simp [eqGuard_at_bool, run_neq_bool w t a b (hte _ _ ht).kind], rfl, rfl⟩
    · cases h
  · rename_i b off len gr
    obtain ⟨rfl, _⟩ := hy
    have hv : ∀ x, H.m b = some x → ∃ a c, xv = .slice (some a) len c := fun x hx' => by
      simp only [CA, CS, LC] at hx
      split at hx
      · exact hx.elim
      · rename_i hd; exact absurd hd (hr.live b x hx')
      · split at hx
        · exact ⟨_, _, hx.2.2⟩
        · obtain ⟨c, o, _, _, hv⟩ := hx; exact ⟨_, _, hv⟩
    split at h
    · rename_i ht hb
      injection h with h; subst h
      obtain ⟨a, c, rfl⟩ := hv _ hb
      exact ⟨_, by simp only [Sem.run_bind, eqGuard_at_slice, Sem.run_pure, Result.andThen_ok, Lib.run_eql_slice_nil w t _ _ _ _ _ _ (hte _ _ ht).kind]; rfl, rfl, rfl⟩
    · rename_i ht hb
      injection h with h; subst h
      obtain ⟨a, c, rfl⟩ := hv _ hb
      exact ⟨_, by simp only [Sem.run_bind, eqGuard_at_slice, Sem.run_pure, Result.andThen_ok, Go.run_neq_slice_nil_any w t _ _ _ _ _ _ (hte _ _ ht).kind]; rfl, rfl, rfl⟩
    · cases h
  · obtain ⟨rfl, _⟩ := hx
    obtain ⟨rfl, _⟩ := hy
    split at h
    · rename_i ht
      injection h with h; subst h
      exact ⟨_, by simp only [Sem.run_bind, eqGuard_at_slice, Sem.run_pure, Result.andThen_ok, Lib.run_eql_slice_nil w t _ _ _ _ _ _ (hte _ _ ht).kind]; rfl, rfl, rfl⟩
    · rename_i ht
      injection h with h; subst h
      exact ⟨_, by simp only [Sem.run_bind, eqGuard_at_slice, Sem.run_pure, Result.andThen_ok, Go.run_neq_slice_nil_any w t _ _ _ _ _ _ (hte _ _ ht).kind]; rfl, rfl, rfl⟩
    · cases h
  · rename_i n cells
    simp only [CA, CS] at hx hy
    obtain ⟨rfl, _⟩ := hy
    obtain ⟨ad, c, cb, co, rfl, _, ha, _⟩ := hx
    split at h
    · cases h
    · rename_i hn
      rw [ha hn]
      split at h
      · rename_i ht
        injection h with h; subst h
        exact ⟨_, by simp only [Sem.run_bind, eqGuard_at_slice, Sem.run_pure, Result.andThen_ok, Lib.run_eql_slice_nil w t _ _ _ _ _ _ (hte _ _ ht).kind]; rfl, rfl, rfl⟩
      · rename_i ht
        injection h with h; subst h
        exact ⟨_, by simp only [Sem.run_bind, eqGuard_at_slice, Sem.run_pure, Result.andThen_ok, Go.run_neq_slice_nil_any w t _ _ _ _ _ _ (hte _ _ ht).kind]; rfl, rfl, rfl⟩
      · cases h
  · simp only [CA, CS] at hx hy
    obtain ⟨rfl, _⟩ := hy
    obtain ⟨ad, c, rfl⟩ := hx
    split at h
    · rename_i ht
      injection h with h; subst h
      exact ⟨_, by simp only [Sem.run_bind, eqGuard_at_slice, Sem.run_pure, Result.andThen_ok, Lib.run_eql_slice_nil w t _ _ _ _ _ _ (hte _ _ ht).kind]; rfl, rfl, rfl⟩
    · rename_i ht
      injection h with h; subst h
      exact ⟨_, by simp only [Sem.run_bind, eqGuard_at_slice, Sem.run_pure, Result.andThen_ok, Go.run_neq_slice_nil_any w t _ _ _ _ _ _ (hte _ _ ht).kind]; rfl, rfl, rfl⟩
    · cases h
  · rename_i xs ys
    obtain ⟨vx, hx1, rfl⟩ := hx
    obtain ⟨vy, hy1, rfl⟩ := hy
    split at h
    · rename_i ti us vs hti hus hvs
      split at h
      · rename_i hc
        injection h with h; subst h
        obtain rfl := rawL_ok hus hx1
        obtain rfl := rawL_ok hvs hy1
        obtain ⟨h1, h2⟩ := (hte _ _ hti).cmp hc.1 vx vy w hc.2.1 hc.2.2
        exact ⟨_, by simp only [Sem.run_bind, run_eqGuard_agg _ _ _ _ _ _ _ h1, Result.andThen_ok, run_eql_struct, h2], rfl, rfl⟩
      · cases h
    · rename_i ti us vs hti hus hvs
      split at h
      · rename_i hc
        injection h with h; subst h
        obtain rfl := rawL_ok hus hx1
        obtain rfl := rawL_ok hvs hy1
        obtain ⟨h1, h2⟩ := (hte _ _ hti).cmp hc.1 vx vy w hc.2.1 hc.2.2
        exact ⟨_, by simp only [Sem.run_bind, run_eqGuard_agg _ _ _ _ _ _ _ h1, Result.andThen_ok, run_neq_struct, h2], rfl, rfl⟩
      · cases h
    · cases h
  · cases h

end Go.Abs
