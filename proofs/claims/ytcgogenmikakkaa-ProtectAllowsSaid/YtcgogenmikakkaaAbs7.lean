/-
  The conditions of a piece of code, and that they suffice.
-/
import Derived.Test.YtcgogenmikakkaaAbs6
namespace Go.Abs
set_option linter.unusedVariables false
set_option linter.unusedSimpArgs false
open Go.RowKit

def AV.cmp : AV → Option Cmp
  | .s x => some (.s x)
  | .agg xs => some (.agg xs)
  | _ => none

def cmps : List AV → Option (List Cmp)
  | [] => some []
  | x :: xs => match x.cmp, cmps xs with
    | some c, some cs => some (c :: cs)
    | _, _ => none

/-- A call of a Go function: which, and its arguments (what it has captured behind them). -/
def callOf (σ : Slots) : Op → Option (FuncId × List Cmp)
  | .call { callee := .value f, args := args, .. } =>
    match ev σ f with
    | .s (.fn g caps) => (cmps (args.toList.map (ev σ))).map fun cs => (g, cs ++ caps.map fun p => .s (.ptr p.1 p.2))
    | _ => none
  | _ => none

/-- **A contract**: what may be handed back, with which heap. -/
def ACallsR (P : Program) (f : FuncId) (args : List Cmp) (H : Heap) (R : AV → Heap → Prop) : Prop :=
  (∀ args w, (callFunc f args).run P w = .ok (.enter f args) w) ∧
  ∀ (B : Nat) (ρ : Env) (w : World) (cargs : List Value), Rel B ρ H w → Al2 (CC ρ) args cargs →
    Calls P f cargs.toArray w fun e w' => ∃ (rv : Value) (ρ' : Env) (r : AV) (H' : Heap), e = .returned rv ∧ CA ρ' r rv ∧ Rel B ρ' H' w' ∧ Step ρ H w ρ' H' w' ∧ R r H'

/-- the result and the heap are known -/
def ACalls (P : Program) (f : FuncId) (args : List Cmp) (H : Heap) (r : AV) (H' : Heap) : Prop := ACallsR P f args H fun r1 H1 => r1 = r ∧ H1 = H'

def CallV (P : Program) (f : FuncId) (args : List Cmp) (H : Heap) (K : AV → Heap → Prop) : Prop := ∃ R, ACallsR P f args H R ∧ ∀ r H', R r H' → K r H'

theorem callv_pure {P : Program} {f : FuncId} {args : List Cmp} {H : Heap} {r : AV} {H' : Heap} {K : AV → Heap → Prop} (h : ACalls P f args H r H') (k : K r H') : CallV P f args H K :=
  ⟨_, h, fun _ _ ⟨h1, h2⟩ => by subst h1 h2; exact k⟩

theorem callv {P : Program} {f : FuncId} {args : List Cmp} {H : Heap} {R : AV → Heap → Prop} {K : AV → Heap → Prop} (h : ACallsR P f args H R) (k : ∀ r H', R r H' → K r H') : CallV P f args H K := ⟨_, h, k⟩

def wantedA (all : Array Oper) (σ : Slots) (o : Oper) : Option Bool :=
  match o.guard with
  | none => some true
  | some (j, want) =>
    match (all[j]?).bind (·.dst) with
    | some d =>
      match σ d with
      | .s (.raw (.bool b)) => some (b == want)
      | .tup _ => some false
      | _ => none
    | none => none

def VOps (P : Program) (te : Nat → Option TI) (all : Array Oper) : List Oper → Slots → Heap → (Slots → Heap → Prop) → Prop
  | [], σ, H, K => K σ H
  | o :: rest, σ, H, K =>
    match wantedA all σ o with
    | some true =>
      match callOf σ o.op with
      | some (f, args) => CallV P f args H fun r H' => VOps P te all rest (Upd σ o.dst r) H' K
      | none =>
        match aop te σ H o.op with
        | some (r, H') => VOps P te all rest (Upd σ o.dst r) H' K
        | none => False
    | some false => VOps P te all rest (Upd σ o.dst (.tup [])) H K
    | none => False

def opdOk (N : Nat) : Operand → Bool
  | .tmp t => t < N
  | _ => true

def dstOk (N : Nat) : Option Tmp → Bool
  | some d => d < N
  | none => true

def operOk (N : Nat) (o : Oper) : Bool := o.op.operands.toList.all (opdOk N) && dstOk N o.dst

/-- a world, and a frame, that fit -/
def Fits (B : Nat) (N : Nat) (ds : List Deferred) (ρ : Env) (σ : Slots) (H : Heap) (a : Act) (w : World) : Prop :=
  Rel B ρ H w ∧ SlotsR ρ σ a.tmps ∧ a.tmps.size = N ∧ a.defers = ds

/-- what is said of an end -/
def QC (B N : Nat) (ds : List Deferred) (ρ : Env) (H : Heap) (w : World) (Q : Exit → Slots → Heap → Prop) (e : Exit) (a' : Act) (w' : World) : Prop :=
  ∃ ρ' σ' H', Step ρ H w ρ' H' w' ∧ Fits B N ds ρ' σ' H' a' w' ∧ Q e σ' H'

theorem QC.step {B N : Nat} {ds : List Deferred} {ρ ρ1 : Env} {H H1 : Heap} {w w1 : World} {Q : Exit → Slots → Heap → Prop} (hs : Step ρ H w ρ1 H1 w1) {e : Exit} {a' : Act} {w' : World} (h : QC B N ds ρ1 H1 w1 Q e a' w') : QC B N ds ρ H w Q e a' w' := by
  obtain ⟨ρ', σ', H', h1, h2, h3⟩ := h
  exact ⟨ρ', σ', H', hs.trans h1, h2, h3⟩

def FW (ro : Option Nat) : Fence := { Fence.wide with round := ro }

theorem callsIn_FW {ro : Option Nat} {n : Nat} {P : Program} {f : FuncId} {args : Array Value} {w : World} {R : Ending → World → Prop} (h : Calls P f args w R) : CallsIn (FW ro) n P f args w R :=
  callsIn_wide.2 h

section
variable {P : Program} {te : Nat → Option TI} {B N : Nat} {ds : List Deferred} {ρ : Env} {H : Heap} {w : World} {a : Act} {σ : Slots}

theorem Fits.ev (h : Fits B N ds ρ σ H a w) {x : Operand} (hx : opdOk N x = true) : CA ρ (ev σ x) (a.eval x) := by
  refine ev_ok fun t ht => ?_
  subst ht
  have : t < N := by simpa [opdOk] using hx
  exact h.2.1 t (by rw [h.2.2.1]; exact this)

theorem wanted_ok {ops : Array Oper} {o : Oper} {b : Bool} (h : wantedA ops σ o = some b) (hs : ∀ d, ((ops[(o.guard.map (·.1)).getD 0]?).bind (·.dst)) = some d → d < a.tmps.size ∧ CA ρ (σ d) (a.tmps.getD d undef)) : Region.wanted o (yielded ops a.tmps) = b := by
  unfold wantedA at h
  unfold Region.wanted
  cases hg : o.guard with
  | none => rw [hg] at h; simpa using h
  | some p =>
    obtain ⟨j, want⟩ := p
    rw [hg] at h
    simp only [hg, Option.map_some, Option.getD_some] at hs
    simp only at h ⊢
    cases hd : (ops[j]?).bind (·.dst) with
    | none => rw [hd] at h; cases h
    | some d =>
      rw [hd] at h
      simp only at h
      obtain ⟨h1, h2⟩ := hs d hd
      split at h
      · rename_i c he
        injection h with h; subst h
        rw [he] at h2
        have hv : a.tmps[d]? = some (.bool c) := by
          have := h2.1
          simp [Array.getD, h1] at this
          simp [h1, this]
        simp [yielded, hd, hv]
      · rename_i cs he
        injection h with h; subst h
        rw [he] at h2
        obtain ⟨vs, _, h2⟩ := h2
        have hv : a.tmps[d]? = some (.tuple vs.toArray) := by
          simp [Array.getD, h1] at h2
          simp [h1, h2]
        simp [yielded, hd, hv]
      · cases h

theorem cmps_ok : ∀ {xs : List Operand} {cs : List Cmp}, cmps (xs.map (ev σ)) = some cs → (∀ x ∈ xs, CA ρ (ev σ x) (a.eval x)) → Al2 (CC ρ) cs (xs.map a.eval)
  | [], cs, h, _ => by simp [cmps] at h; subst h; trivial
  | x :: xs, cs, h, hc => by
    simp only [List.map_cons, cmps] at h
    split at h
    · rename_i c cs' h1 h2
      injection h with h; subst h
      refine ⟨?_, cmps_ok h2 fun y hy => hc y (by simp [hy])⟩
      have := hc x (by simp)
      unfold AV.cmp at h1
      split at h1
      · rename_i he; injection h1 with h1; subst h1; rw [he] at this; exact this
      · rename_i he; injection h1 with h1; subst h1; rw [he] at this; exact this
      · cases h1
    · cases h

theorem caps_ok : ∀ {caps : List (Nat × Nat)} {vs : List Value}, Al2 (fun p v => PC ρ p.1 p.2 v) caps vs → Al2 (CC ρ) (caps.map fun p => Cmp.s (.ptr p.1 p.2)) vs
  | [], [], _ => trivial
  | p :: caps, v :: vs, h => ⟨h.1, caps_ok h.2⟩
  | [], _ :: _, h => h.elim
  | _ :: _, [], h => h.elim

/-- A call: what it comes to. -/
theorem call_run {o : Oper} {f : FuncId} {args : List Cmp} (h : callOf σ o.op = some (f, args)) (hx : ∀ x ∈ o.op.operands.toList, CA ρ (ev σ x) (a.eval x)) (he : ∀ args w, (callFunc f args).run P w = .ok (.enter f args) w) (w : World) :
    ∃ cargs : List Value, (execOp a.eval o).run P w = .ok (.enter f cargs.toArray) w ∧ Al2 (CC ρ) args cargs := by
  unfold callOf at h
  split at h
  · rename_i fo xs ts ho
    split at h
    · rename_i g caps hev
      rw [Option.map_eq_some_iff] at h
      obtain ⟨cs, h1, h2⟩ := h
      cases h2
      have hf := hx fo (by rw [ho]; simp [Op.operands, Call.operands])
      rw [hev] at hf
      obtain ⟨vs, hv1, hv2⟩ := hf
      refine ⟨xs.toList.map a.eval ++ vs, ?_, ?_⟩
      · simp [execOp, ho, resolve, Deferred.ofValue, hv2, invoke, he]
      · refine Al2.append (cmps_ok h1 fun x hx' => hx x (by rw [ho]; simp [Op.operands, Call.operands]; exact .inr (by simpa using hx'))) ?_
        exact caps_ok hv1
    · cases h
  · cases h

theorem not_defer_call {o : Oper} {x : FuncId × List Cmp} (h : callOf σ o.op = some x) : ∀ c, o.op ≠ .defer c := fun c hc => by rw [hc] at h; simp [callOf] at h
theorem not_defer_aop {o : Oper} {x : AV × Heap} (h : aop te σ H o.op = some x) : ∀ c, o.op ≠ .defer c := fun c hc => by rw [hc] at h; simp [aop] at h

theorem oper_hx {o : Oper} (hf : Fits B N ds ρ σ H a w) (hok : operOk N o = true) : ∀ x ∈ o.op.operands.toList, CA ρ (ev σ x) (a.eval x) := fun x hx => hf.ev (by
  have := hok
  simp only [operOk, Bool.and_eq_true, List.all_eq_true] at this
  exact this.1 x hx)

theorem oper_wp_call {ro : Option Nat} {n : Nat} {o : Oper} (hr : Rel B ρ H w) (hx : ∀ x ∈ o.op.operands.toList, CA ρ (ev σ x) (a.eval x)) {next : Act → World → Prop} {Q : Exit → Act → World → Prop}
    {f : FuncId} {args : List Cmp} (hc : callOf σ o.op = some (f, args)) {R : AV → Heap → Prop} (hac : ACallsR P f args H R)
    (hk : ∀ rv w' ρ' r H', R r H' → CA ρ' r rv → Rel B ρ' H' w' → Step ρ H w ρ' H' w' → next (a.put o.dst rv) w') : o.wpIn (FW ro) n P a w next Q := by
  unfold Oper.wpIn
  refine ⟨fun _ _ => trivial, ?_⟩
  obtain ⟨cargs, h1, h2⟩ := call_run hc hx hac.1 w
  rw [Oper.semAt_eq _ _ _ (not_defer_call hc), h1, Oper.uponIn_enter]
  refine ⟨fun h => by simp [FW, Fence.wide] at h, ?_⟩
  refine callsIn_FW ((hac.2 B ρ w cargs hr h2).mono ?_)
  rintro e w' ⟨rv, ρ', r, H', rfl, h3, h4, h5, h6⟩
  exact hk rv w' ρ' r H' h6 h3 h4 h5

theorem oper_wp_op (hte : TEok P te) {ro : Option Nat} {n : Nat} {o : Oper} (hr : Rel B ρ H w) (hx : ∀ x ∈ o.op.operands.toList, CA ρ (ev σ x) (a.eval x)) {next : Act → World → Prop} {Q : Exit → Act → World → Prop} {r : AV} {H' : Heap}
    (hop : aop te σ H o.op = some (r, H'))
    (hk : ∀ rv w' ρ', CA ρ' r rv → Rel B ρ' H' w' → Step ρ H w ρ' H' w' → next (a.put o.dst rv) w') : o.wpIn (FW ro) n P a w next Q := by
  unfold Oper.wpIn
  refine ⟨fun _ _ => trivial, ?_⟩
  obtain ⟨nx, w', ρ', h1, h2, h3, h4⟩ := aop_ok hte hr hx hop
  rw [Oper.semAt_eq _ _ _ (not_defer_aop hop), h1]
  rcases h2 with ⟨rv, rfl, h5⟩ | ⟨rfl, rfl⟩
  · rw [Oper.uponIn_value]; exact hk rv w' ρ' h5 h3 h4
  · rw [Oper.uponIn_skip]; exact hk undef w' ρ' trivial h3 h4

theorem Fits.put {ρ' : Env} {H' : Heap} {w' : World} (hf : Fits B N ds ρ σ H a w) (hs : Step ρ H w ρ' H' w') (hr : Rel B ρ' H' w') {d : Option Tmp} {r : AV} {rv : Value} (hv : CA ρ' r rv) : Fits B N ds ρ' (Upd σ d r) H' (a.put d rv) w' :=
  ⟨hr, (hf.2.1.mono hs.le).put hv, by rw [Act.put_size]; exact hf.2.2.1, by cases d <;> exact hf.2.2.2⟩

/-- the operations of a region, in the order of the text -/
theorem vops_ok (hte : TEok P te) {ro : Option Nat} {n : Nat} {ops : Array Oper} (hall : ops.toList.all (operOk N) = true) {K : Slots → Heap → Prop} {Q : Exit → Act → World → Prop} :
    ∀ (l : List Oper) (k : Nat), ops.toList.drop k = l → ∀ (σ : Slots) (H : Heap) (ρ : Env) (a : Act) (w : World), Fits B N ds ρ σ H a w → VOps P te ops l σ H K →
      (∀ σ' H' ρ' a' w', Fits B N ds ρ' σ' H' a' w' → Step ρ H w ρ' H' w' → K σ' H' → Q .normal a' w') → wpOpsIn (FW ro) n P ops Q ((List.range l.length).map (· + k)) a w
  | [], k, _, σ, H, ρ, a, w, hf, hv, hq => by
    exact hq σ H ρ a w hf (Step.refl _ _ _) hv
  | o :: l, k, hd, σ, H, ρ, a, w, hf, hv, hq => by
    have hk : ops[k]? = some o := by
      have : (ops.toList.drop k)[0]? = some o := by rw [hd]; rfl
      simpa using this
    have hd' : ops.toList.drop (k + 1) = l := by
      have : (ops.toList.drop k).drop 1 = l := by rw [hd]; rfl
      rwa [List.drop_drop] at this
    have hok : operOk N o = true := by
      have := List.all_eq_true.1 hall o (by
        have := Array.mem_of_getElem? hk
        exact Array.mem_toList_iff.2 this)
      exact this
    have hdst : ∀ (j : Nat) (d : Nat), (ops[j]?).bind (·.dst) = some d → d < N := by
      intro j d hj
      cases hoj : ops[j]? with
      | none => rw [hoj] at hj; cases hj
      | some o' =>
        rw [hoj] at hj
        have := List.all_eq_true.1 hall o' (Array.mem_toList_iff.2 (Array.mem_of_getElem? hoj))
        simp only [operOk, Bool.and_eq_true] at this
        simp only [Option.bind_some] at hj
        have h2 := this.2
        rw [hj] at h2
        simpa [dstOk] using h2
    have hw : ∀ b, wantedA ops σ o = some b → Region.wanted o (yielded ops a.tmps) = b := fun b hb => wanted_ok hb fun d hdd => by
      have := hdst _ d hdd
      refine ⟨by rw [hf.2.2.1]; exact this, hf.2.1 d (by rw [hf.2.2.1]; exact this)⟩
    have hlist : (List.range (o :: l).length).map (· + k) = k :: (List.range l.length).map (· + (k + 1)) := by
      simp only [List.length_cons, List.range_succ_eq_map, List.map_cons, Nat.zero_add, List.map_map]
      congr 1
      apply List.map_congr_left
      intro x _
      simp only [Function.comp_apply]; omega
    rw [hlist]
    simp only [VOps] at hv
    simp only [wpOpsIn, hk]
    split at hv
    · rename_i hwt
      rw [hw _ hwt]
      simp only [if_true]
      split at hv
      · rename_i f args hc
        obtain ⟨R, hac, hrest⟩ := hv
        exact oper_wp_call hf.1 (oper_hx hf hok) hc hac fun rv w' ρ' r H' hR h1 h2 h3 =>
          vops_ok hte hall l (k + 1) hd' _ _ _ _ _ (hf.put h3 h2 h1) (hrest r H' hR) fun σ' H'' ρ'' a' w'' h4 h5 h6 => hq σ' H'' ρ'' a' w'' h4 (h3.trans h5) h6
      · rename_i hc
        split at hv
        · rename_i r H' hop
          exact oper_wp_op hte hf.1 (oper_hx hf hok) hop fun rv w' ρ' h1 h2 h3 =>
            vops_ok hte hall l (k + 1) hd' _ _ _ _ _ (hf.put h3 h2 h1) hv fun σ' H'' ρ'' a' w'' h4 h5 h6 => hq σ' H'' ρ'' a' w'' h4 (h3.trans h5) h6
        · exact hv.elim
    · rename_i hwt
      rw [hw _ hwt]
      simp only [Bool.false_eq_true, if_false]
      refine ⟨fun _ _ => trivial, ?_⟩
      exact vops_ok hte hall l (k + 1) hd' _ _ _ _ _ (hf.put (Step.refl _ _ _) hf.1 (r := .tup []) ⟨[], trivial, rfl⟩) hv hq
    · exact hv.elim
end

end Go.Abs
