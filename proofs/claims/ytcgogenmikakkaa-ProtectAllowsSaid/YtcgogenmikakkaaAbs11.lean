/-
  One step after another, with what comes behind hidden behind a name.
-/
import Derived.Test.YtcgogenmikakkaaAbs10
namespace Go.Abs
set_option linter.unusedVariables false
set_option linter.unusedSimpArgs false
open Go.RowKit

def bO {α : Type} (x : Option α) (k : α → Prop) : Prop := match x with | some a => k a | none => False
theorem bO_some {α : Type} {a : α} {k : α → Prop} : bO (some a) k = k a := rfl
@[congr] theorem bO_congr {α : Type} {x x' : Option α} {k : α → Prop} (h : x = x') : bO x k = bO x' k := by rw [h]

section
variable {P : Program} {te : Nat → Option TI} {σ : Slots} {H : Heap} {Q : Post}
theorem vx_op' {all : Array Oper} {d : Option Tmp} {op : Op} {rest : List Oper} {K : Slots → Heap → Prop} (hc : isVCall op = false) (h : ∀ k : AV → Heap → Prop, (∀ r H', VOps P te all rest (Upd σ d r) H' K → k r H') → bA (aop te σ H op) k) : VX P te all op d rest σ H K := by
  unfold VX; rw [callOf_none hc]; exact h _ fun _ _ h => h
theorem vops_g' {all : Array Oper} {d : Option Tmp} {op : Op} {ty : TypeId} {pos : String} {af : Array Edge} {g : Nat × Bool} {rest : List Oper} {K : Slots → Heap → Prop} (h : ∀ x y : Prop, (VX P te all op d rest σ H K → x) → (VOps P te all rest (Upd σ d (.tup [])) H K → y) → bW (wantedA all σ ⟨d, op, ty, pos, af, some g⟩) x y) : VOps P te all (⟨d, op, ty, pos, af, some g⟩ :: rest) σ H K := by
  rw [vops_cons]; exact h _ _ (fun h => h) (fun h => h)
theorem vx_call' {all : Array Oper} {d : Option Tmp} {f : FuncId} {args : List Operand} {ts : Array TypeId} {rest : List Oper} {K : Slots → Heap → Prop}
    (h : ∀ k : List Cmp → Prop, (∀ cs, (CallV P f cs H fun r H' => VOps P te all rest (Upd σ d r) H' K) → k cs) → bO (cmps (args.map (ev σ))) k) : VX P te all (.call { callee := .value (.func f), args := args.toArray, argTypes := ts }) d rest σ H K := by
  unfold VX
  have h' := h _ fun _ h => h
  cases hc : cmps (args.map (ev σ)) with
  | none => rw [hc] at h'; exact h'.elim
  | some cs =>
    rw [hc] at h'
    have : callOf σ (.call { callee := .value (.func f), args := args.toArray, argTypes := ts }) = some (f, cs) := by simp [callOf, ev, hc]
    rw [this]; exact h'
/-- what comes behind a call, behind a name -/
theorem callv_k {f : FuncId} {args : List Cmp} {K : AV → Heap → Prop} (h : ∀ k : AV → Heap → Prop, (∀ r H', K r H' → k r H') → CallV P f args H k) : CallV P f args H K := h _ fun _ _ h => h
theorem vc_cond'' {c : Operand} {x y : Code} (h : ∀ a b : Prop, (VC P te x σ H Q → a) → (VC P te y σ H Q → b) → bB (ev σ c) fun t => bI t a b) : VC P te (.cond c x y) σ H Q := by
  rw [vc_cond]; exact h _ _ (fun h => h) (fun h => h)
theorem pret_r' {rs : Array ResultVar} {K : AV → Heap → Prop} (h : ∀ k : AV → Prop, (∀ r, K r H → k r) → bO (aresult te σ H rs) k) : PRet te rs K .ret σ H := by
  have h' := h _ fun _ h => h
  cases hr : aresult te σ H rs with
  | none => rw [hr] at h'; exact h'.elim
  | some r => rw [hr] at h'; exact ⟨r, hr, h'⟩
theorem pret_n' {rs : Array ResultVar} {K : AV → Heap → Prop} (h : ∀ k : AV → Prop, (∀ r, K r H → k r) → bO (aresult te σ H rs) k) : PRet te rs K .normal σ H := by
  have h' := h _ fun _ h => h
  cases hr : aresult te σ H rs with
  | none => rw [hr] at h'; exact h'.elim
  | some r => rw [hr] at h'; exact ⟨r, hr, h'⟩

/-! #### The same in a region that draws its order -/
theorem HExtR.push {H : Heap} {x : Blk} (h : x.cells.all pers = true) : HExtR H (H.push x) := by
  refine ⟨by simp, fun b hb => Heap.push_ne _ _ (by omega), fun b y h1 h2 h3 sv hm => ?_⟩
  have : b = H.n := by simp at h2; omega
  subst this
  rw [Heap.push_same] at h3; injection h3 with h3; subst h3
  exact List.all_eq_true.1 h sv hm
def VDX (P : Program) (te : Nat → Option TI) (all : Array Oper) (op : Op) (d : Option Tmp) (rest : List Oper) (σ : Slots) (H : Heap) (K : Slots → Heap → Prop) : Prop :=
  bC (callOf σ op) (fun f args => ∃ r H', ACalls P f args H r H' ∧ HExtR H H' ∧ VD P te all rest (Upd σ d r) H' K) (bA (aop te σ H op) fun r H' => (match opKind op with | 0 => H' = H | 1 => HExtR H H' | _ => True) ∧ VD P te all rest (Upd σ d r) H' K)
theorem vd_ng {all : Array Oper} {d : Option Tmp} {op : Op} {ty : TypeId} {pos : String} {af : Array Edge} {rest : List Oper} {K : Slots → Heap → Prop} (h : VDX P te all op d rest σ H K) : VD P te all (⟨d, op, ty, pos, af, none⟩ :: rest) σ H K := by
  rw [vd_cons]; exact h
theorem vd_g' {all : Array Oper} {d : Option Tmp} {op : Op} {ty : TypeId} {pos : String} {af : Array Edge} {g : Nat × Bool} {rest : List Oper} {K : Slots → Heap → Prop} (h : ∀ x y : Prop, (VDX P te all op d rest σ H K → x) → (VD P te all rest (Upd σ d (.tup [])) H K → y) → bW (wantedA all σ ⟨d, op, ty, pos, af, some g⟩) x y) : VD P te all (⟨d, op, ty, pos, af, some g⟩ :: rest) σ H K := by
  rw [vd_cons]; exact h _ _ (fun h => h) (fun h => h)
theorem vd_gt {all : Array Oper} {d : Option Tmp} {op : Op} {ty : TypeId} {pos : String} {af : Array Edge} {g : Option (Nat × Bool)} {rest : List Oper} {K : Slots → Heap → Prop} (hw : wantedA all σ ⟨d, op, ty, pos, af, g⟩ = some true) (h : VDX P te all op d rest σ H K) : VD P te all (⟨d, op, ty, pos, af, g⟩ :: rest) σ H K := by
  rw [vd_cons, hw]; exact h
theorem vd_gf {all : Array Oper} {d : Option Tmp} {op : Op} {ty : TypeId} {pos : String} {af : Array Edge} {g : Option (Nat × Bool)} {rest : List Oper} {K : Slots → Heap → Prop} (hw : wantedA all σ ⟨d, op, ty, pos, af, g⟩ = some false) (h : VD P te all rest (Upd σ d (.tup [])) H K) : VD P te all (⟨d, op, ty, pos, af, g⟩ :: rest) σ H K := by
  rw [vd_cons, hw]; exact h
theorem vdx_0 {all : Array Oper} {d : Option Tmp} {op : Op} {rest : List Oper} {K : Slots → Heap → Prop} (hk : Nat.beq (opKind op) 0 = true) (h : ∀ k : AV → Heap → Prop, (∀ r, VD P te all rest (Upd σ d r) H K → k r H) → bA (aop te σ H op) k) : VDX P te all op d rest σ H K := by
  have hk : opKind op = 0 := Nat.eq_of_beq_eq_true hk
  unfold VDX
  cases hc : callOf σ op with
  | some x => have := callOf_kind hc; omega
  | none => simp only [hk]; exact h (fun r H' => H' = H ∧ VD P te all rest (Upd σ d r) H' K) fun r hr => ⟨rfl, hr⟩
theorem vdx_1 {all : Array Oper} {d : Option Tmp} {op : Op} {rest : List Oper} {K : Slots → Heap → Prop} (hc : isVCall op = false) (hk : Nat.beq (opKind op) 1 = true) (h : ∀ k : AV → Heap → Prop, (∀ r H', HExtR H H' → VD P te all rest (Upd σ d r) H' K → k r H') → bA (aop te σ H op) k) : VDX P te all op d rest σ H K := by
  have hk : opKind op = 1 := Nat.eq_of_beq_eq_true hk
  unfold VDX
  rw [callOf_none hc]; simp only [hk]; exact h _ fun r H' h1 h2 => ⟨h1, h2⟩
theorem vdx_2 {all : Array Oper} {d : Option Tmp} {op : Op} {rest : List Oper} {K : Slots → Heap → Prop} (hk : Nat.beq (opKind op) 2 = true) (h : ∀ k : AV → Heap → Prop, (∀ r H', VD P te all rest (Upd σ d r) H' K → k r H') → bA (aop te σ H op) k) : VDX P te all op d rest σ H K := by
  have hk : opKind op = 2 := Nat.eq_of_beq_eq_true hk
  unfold VDX
  cases hc : callOf σ op with
  | some x => have := callOf_kind hc; omega
  | none => simp only [hk]; exact h _ fun r H' h1 => ⟨trivial, h1⟩
def VCallD (P : Program) (te : Nat → Option TI) (all : Array Oper) (f : FuncId) (cs : List Cmp) (d : Option Tmp) (rest : List Oper) (σ : Slots) (H : Heap) (K : Slots → Heap → Prop) : Prop := ∃ r H', ACalls P f cs H r H' ∧ HExtR H H' ∧ VD P te all rest (Upd σ d r) H' K
theorem vcalld_pure {all : Array Oper} {f : FuncId} {cs : List Cmp} {d : Option Tmp} {rest : List Oper} {K : Slots → Heap → Prop} {r : AV} (h : ACalls P f cs H r H) (k : VD P te all rest (Upd σ d r) H K) : VCallD P te all f cs d rest σ H K := ⟨r, H, h, HExtR.refl _, k⟩
theorem vdx_call {all : Array Oper} {d : Option Tmp} {f : FuncId} {args : List Operand} {ts : Array TypeId} {rest : List Oper} {K : Slots → Heap → Prop}
    (h : ∀ k : List Cmp → Prop, (∀ cs, VCallD P te all f cs d rest σ H K → k cs) → bO (cmps (args.map (ev σ))) k) : VDX P te all (.call { callee := .value (.func f), args := args.toArray, argTypes := ts }) d rest σ H K := by
  unfold VDX
  have h' := h _ fun _ h => h
  cases hc : cmps (args.map (ev σ)) with
  | none => rw [hc] at h'; exact h'.elim
  | some cs =>
    rw [hc] at h'
    have : callOf σ (.call { callee := .value (.func f), args := args.toArray, argTypes := ts }) = some (f, cs) := by simp [callOf, ev, hc]
    rw [this]; exact h'
theorem vd_nil' {all : Array Oper} {K : Slots → Heap → Prop} (h : K σ H) : VD P te all [] σ H K := h
theorem vc_draw' {id : Nat} {l : List Oper} (hd : drawOk l.toArray = true) (h : ∀ K : Slots → Heap → Prop, (∀ σ H, Q .normal σ H → K σ H) → VD P te l.toArray l σ H K) : VC P te (.region id l.toArray true) σ H Q := by
  rw [vc_draw]; exact ⟨hd, h _ fun _ _ h => h⟩
theorem vc_loop' {c : Code} (h : ∃ (I : Nat → Slots → Heap → Prop) (k : Nat), I k σ H ∧ ∀ k σ H, I k σ H → VC P te c σ H (PThen (fun σ' H' => ∃ k', k' < k ∧ I k' σ' H') Q)) : VC P te (.loop c) σ H Q := h
end
attribute [go_sem] Nat.add_assoc bO_some bA_some bW_some bB_raw bI_true bI_false bI_not
end Go.Abs
