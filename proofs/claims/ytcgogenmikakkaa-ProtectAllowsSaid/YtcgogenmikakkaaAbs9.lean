/-
  The conditions of a piece of code, and that they suffice.
-/
import Derived.Test.YtcgogenmikakkaaAbs8
namespace Go.Abs
set_option linter.unusedVariables false
set_option linter.unusedSimpArgs false
open Go.RowKit

abbrev Post := Exit → Slots → Heap → Prop

def PThen (K : Slots → Heap → Prop) (Q : Post) : Post
  | .normal, σ, H => K σ H
  | e, σ, H => Q e σ H

def PBlock (id : Nat) (Q : Post) : Post
  | .exit i, σ, H => if i = id then Q .normal σ H else Q (.exit i) σ H
  | e, σ, H => Q e σ H

/-- less is said: of slots, and of the heap -/
def Weak (σ : Slots) (H : Heap) (σ1 : Slots) (H1 : Heap) : Prop :=
  ∀ (B N : Nat) (ds : List Deferred) (ρ : Env) (a : Act) (w : World), Fits B N ds ρ σ H a w → ∃ ρ', Step ρ H w ρ' H1 w ∧ Fits B N ds ρ' σ1 H1 a w
theorem Weak.refl (σ : Slots) (H : Heap) : Weak σ H σ H := fun _ _ _ ρ _ _ hf => ⟨ρ, Step.refl _ _ _, hf⟩
theorem Weak.trans {σ σ1 σ2 : Slots} {H H1 H2 : Heap} (h : Weak σ H σ1 H1) (k : Weak σ1 H1 σ2 H2) : Weak σ H σ2 H2 := fun B N ds ρ a w hf => by
  obtain ⟨ρ1, a1, a2⟩ := h B N ds ρ a w hf
  obtain ⟨ρ2, b1, b2⟩ := k B N ds ρ1 a w a2
  exact ⟨ρ2, a1.trans b1, b2⟩

def VC (P : Program) (te : Nat → Option TI) : Code → Slots → Heap → Post → Prop
  | .skip, σ, H, Q => Q .normal σ H
  | .region _ ops false, σ, H, Q => VOps P te ops ops.toList σ H (Q .normal)
  | .region _ ops true, σ, H, Q => drawOk ops = true ∧ VD P te ops ops.toList σ H (Q .normal)
  | .seq x y, σ, H, Q => VC P te x σ H (PThen (fun σ H => ∃ σ1 H1, Weak σ H σ1 H1 ∧ VC P te y σ1 H1 Q) Q)
  | .cond c x y, σ, H, Q =>
    match ev σ c with
    | .s (.raw (.bool b)) => if b = true then VC P te x σ H Q else VC P te y σ H Q
    | _ => False
  | .block id c, σ, H, Q => VC P te c σ H (PBlock id Q)
  | .loop c, σ, H, Q => ∃ (I : Nat → Slots → Heap → Prop) (k : Nat), I k σ H ∧ ∀ k σ H, I k σ H → VC P te c σ H (PThen (fun σ' H' => ∃ k', k' < k ∧ I k' σ' H') Q)
  | .exit id, σ, H, Q => Q (.exit id) σ H
  | .ret, σ, H, Q => Q .ret σ H
  | .label _, σ, H, Q => Q .normal σ H
  | _, _, _, _ => False

def codeOk (N : Nat) : Code → Bool
  | .region _ ops _ => ops.toList.all (operOk N)
  | .seq x y => codeOk N x && codeOk N y
  | .cond c x y => opdOk N c && codeOk N x && codeOk N y
  | .block _ c => codeOk N c
  | .loop c => codeOk N c
  | _ => true

/-- a loop's rule with a number beside the state -/
theorem wpIn_loop_k {F : Fence} {n : Nat} {P : Program} {Q : Exit → Act → World → Prop} {a : Act} {w : World} {c : Code} (I : Nat → Act → World → Prop) {k : Nat} (h₀ : I k a w)
    (round : ∀ k a w, I k a w → c.wpIn F n P (Exit.then (fun a' w' => ∃ k', k' < k ∧ I k' a' w') Q) a w) : (Code.loop c).wpIn F n P Q a w := by
  have key : ∀ k a w, I k a w → ∃ m, I m a w ∧ ∀ j, I j a w → m ≤ j := by
    intro k
    induction k using Nat.strongRecOn with
    | _ k ih =>
      intro a w h
      by_cases hex : ∃ j, j < k ∧ I j a w
      · obtain ⟨j, hj, hi⟩ := hex
        exact ih j hj a w hi
      · refine ⟨k, h, fun j hj => ?_⟩
        rcases Nat.lt_or_ge j k with hlt | hge
        · exact absurd ⟨j, hlt, hj⟩ hex
        · exact hge
  let μ : Act → World → Nat := fun a w => @Classical.epsilon Nat ⟨0⟩ fun m => I m a w ∧ ∀ j, I j a w → m ≤ j
  have hμ : ∀ k a w, I k a w → I (μ a w) a w ∧ ∀ j, I j a w → μ a w ≤ j := fun k a w h => @Classical.epsilon_spec Nat (fun m => I m a w ∧ ∀ j, I j a w → m ≤ j) (key k a w h)
  refine wpIn_loop (fun a w => ∃ k, I k a w) μ ⟨k, h₀⟩ ?_
  rintro a w ⟨k, hk⟩
  have h1 := (hμ k a w hk).1
  refine wpIn_mono (round _ a w h1) ?_
  rintro e a' w' h
  cases e with
  | normal =>
    obtain ⟨k', hlt, hi⟩ := h
    exact ⟨⟨k', hi⟩, Nat.lt_of_le_of_lt ((hμ k' a' w' hi).2 k' hi) hlt⟩
  | _ => exact h

section
variable {P : Program} {te : Nat → Option TI} {B N : Nat} {ds : List Deferred}

theorem vc_ok (hte : TEok P te) (hmx : P.follows .mixedOrders = true) {ro : Option Nat} {n : Nat} : ∀ (c : Code) (σ : Slots) (H : Heap) (Q : Post) (ρ : Env) (a : Act) (w : World), codeOk N c = true → Fits B N ds ρ σ H a w → VC P te c σ H Q →
    c.wpIn (FW ro) n P (QC B N ds ρ H w Q) a w := by
  intro c
  induction c with
  | skip => intro σ H Q ρ a w _ hf hv; exact wpIn_skip ⟨ρ, σ, H, Step.refl _ _ _, hf, hv⟩
  | label l => intro σ H Q ρ a w _ hf hv; exact wpIn_label ⟨ρ, σ, H, Step.refl _ _ _, hf, hv⟩
  | exit id => intro σ H Q ρ a w _ hf hv; exact wpIn_exit ⟨ρ, σ, H, Step.refl _ _ _, hf, hv⟩
  | ret => intro σ H Q ρ a w _ hf hv; exact wpIn_ret ⟨ρ, σ, H, Step.refl _ _ _, hf, hv⟩
  | region id ops d =>
    intro σ H Q ρ a w hok hf hv
    cases d with
    | false =>
      refine wpIn_region ?_
      have := vops_ok (n := n) (ro := ro) hte hok ops.toList 0 rfl σ H ρ a w hf hv (Q := QC B N ds ρ H w Q) (fun σ' H' ρ' a' w' h1 h2 h3 => ⟨ρ', σ', H', h2, h1, h3⟩)
      simpa using this
    | true => exact vd_ok hte hmx hok hv.1 hf hv.2
  | seq x y ihx ihy =>
    intro σ H Q ρ a w hok hf hv
    simp only [codeOk, Bool.and_eq_true] at hok
    refine wpIn_seq (wpIn_mono (ihx σ H _ ρ a w hok.1 hf hv) ?_)
    rintro e a' w' ⟨ρ', σ', H', h1, h2, h3⟩
    cases e with
    | normal =>
      obtain ⟨σ1, H1, hw, hv⟩ := h3
      obtain ⟨ρ1, g1, g2⟩ := hw _ _ _ _ _ _ h2
      exact wpIn_mono (ihy σ1 H1 Q ρ1 a' w' hok.2 g2 hv) fun _ _ _ h => h.step (h1.trans g1)
    | _ => exact ⟨ρ', σ', H', h1, h2, h3⟩
  | cond c x y ihx ihy =>
    intro σ H Q ρ a w hok hf hv
    simp only [codeOk, Bool.and_eq_true] at hok
    simp only [VC] at hv
    split at hv
    · rename_i b he
      have := hf.ev hok.1.1
      rw [he] at this
      refine wpIn_cond this.1 ?_
      cases b
      · simp only [Bool.false_eq_true, if_false] at hv ⊢; exact ihy σ H Q ρ a w hok.2 hf hv
      · simp only [if_true] at hv ⊢; exact ihx σ H Q ρ a w hok.1.2 hf hv
    · exact hv.elim
  | block id c ih =>
    intro σ H Q ρ a w hok hf hv
    refine wpIn_block (wpIn_mono (ih σ H _ ρ a w hok hf hv) ?_)
    rintro e a' w' ⟨ρ', σ', H', h1, h2, h3⟩
    cases e with
    | exit i =>
      simp only [PBlock] at h3
      simp only [Exit.inBlock]
      split
      · rename_i e; simp only [e, if_true] at h3; exact ⟨ρ', σ', H', h1, h2, h3⟩
      · rename_i e; simp only [e, if_false] at h3; exact ⟨ρ', σ', H', h1, h2, h3⟩
    | _ => exact ⟨ρ', σ', H', h1, h2, h3⟩
  | loop c ih =>
    intro σ H Q ρ a w hok hf hv
    obtain ⟨I, k, h0, hr⟩ := hv
    refine wpIn_loop_k (fun k a' w' => ∃ ρ' σ' H', Step ρ H w ρ' H' w' ∧ Fits B N ds ρ' σ' H' a' w' ∧ I k σ' H') (k := k) ⟨ρ, σ, H, Step.refl _ _ _, hf, h0⟩ ?_
    rintro k a' w' ⟨ρ', σ', H', h1, h2, h3⟩
    refine wpIn_mono (ih σ' H' _ ρ' a' w' hok h2 (hr k σ' H' h3)) ?_
    rintro e a'' w'' ⟨ρ'', σ'', H'', h4, h5, h6⟩
    cases e with
    | normal =>
      obtain ⟨k', hlt, hi⟩ := h6
      exact ⟨k', hlt, ρ'', σ'', H'', h1.trans h4, h5, hi⟩
    | _ => exact ⟨ρ'', σ'', H'', h1.trans h4, h5, h6⟩
  | _ => intro σ H Q ρ a w _ _ hv; exact hv.elim

/-! ### From a body to a contract -/
def aresults (te : Nat → Option TI) (σ : Slots) (H : Heap) : List ResultVar → Option (List Cmp)
  | [] => some []
  | .tmp t :: rs =>
    match (σ t).cmp, aresults te σ H rs with
    | some c, some cs => some (c :: cs)
    | _, _ => none
  | .cell p t :: rs =>
    match σ p with
    | .s (.ptr b off) =>
      match (aload te H t b off).bind AV.cmp, aresults te σ H rs with
      | some c, some cs => some (c :: cs)
      | _, _ => none
    | _ => none

def aresult (te : Nat → Option TI) (σ : Slots) (H : Heap) (rs : Array ResultVar) : Option AV :=
  match aresults te σ H rs.toList with
  | some [c] => some c.av
  | some cs => some (.tup cs)
  | none => none

def resOk (N : Nat) : ResultVar → Bool
  | .tmp t => t < N
  | .cell p _ => p < N

/-- the slots at the start: the parameters; of the others nothing is known -/
def argSlots : List Cmp → Nat → AV
  | [], _ => .any
  | c :: _, 0 => c.av
  | _ :: cs, t + 1 => argSlots cs t

def PRet (te : Nat → Option TI) (rs : Array ResultVar) (K : AV → Heap → Prop) : Post
  | .ret, σ, H => ∃ r, aresult te σ H rs = some r ∧ K r H
  | .normal, σ, H => ∃ r, aresult te σ H rs = some r ∧ K r H
  | _, _, _ => False

def resSem (tmps : Array Value) : ResultVar → Sem Value
  | .tmp t => pure (tmps.getD t undef)
  | .cell p t => do loadVar t (← asAddr (tmps.getD p undef))

theorem results_eq (fn : Func) (tmps : Array Value) : results fn tmps = (do
    let vs ← fn.results.mapM (resSem tmps)
    pure (if h : vs.size = 1 then vs[0] else .tuple vs)) := by
  unfold results
  congr 1

theorem aresults_ok {ρ : Env} {σ : Slots} {H : Heap} {a : Act} {w : World} (hte : TEok P te) (hf : Fits B N ds ρ σ H a w) : ∀ (rs : List ResultVar) (cs : List Cmp), rs.all (resOk N) = true → aresults te σ H rs = some cs →
    ∃ vs : List Value, (rs.mapM (m := Sem) (resSem a.tmps)).run P w = .ok vs w ∧ Al2 (CC ρ) cs vs
  | [], cs, _, h => by simp [aresults] at h; subst h; exact ⟨[], by simp, trivial⟩
  | .tmp t :: rs, cs, hok, h => by
    simp only [List.all_cons, Bool.and_eq_true] at hok
    simp only [aresults] at h
    split at h
    · rename_i c cs' h1 h2
      injection h with h; subst h
      obtain ⟨vs, h3, h4⟩ := aresults_ok hte hf rs cs' hok.2 h2
      have hlt : t < N := by simpa [resOk] using hok.1
      have hv := hf.2.1 t (by rw [hf.2.2.1]; exact hlt)
      refine ⟨a.tmps.getD t undef :: vs, ?_, ?_, h4⟩
      · simp only [List.mapM_cons, Sem.run_bind, resSem, Sem.run_pure, Result.andThen_ok, h3]
      · unfold AV.cmp at h1
        split at h1
        · rename_i he; injection h1 with h1; subst h1; rw [he] at hv; exact hv
        · rename_i he; injection h1 with h1; subst h1; rw [he] at hv; exact hv
        · cases h1
    · cases h
  | .cell p t :: rs, cs, hok, h => by
    simp only [List.all_cons, Bool.and_eq_true] at hok
    simp only [aresults] at h
    split at h
    · rename_i b off he
      split at h
      · rename_i c cs' h1 h2
        injection h with h; subst h
        obtain ⟨vs, h3, h4⟩ := aresults_ok hte hf rs cs' hok.2 h2
        have hlt : p < N := by simpa [resOk] using hok.1
        have hv := hf.2.1 p (by rw [hf.2.2.1]; exact hlt)
        rw [he] at hv
        rw [Option.bind_eq_some_iff] at h1
        obtain ⟨av, h5, h6⟩ := h1
        obtain ⟨xb, hxb⟩ := aload_live h5
        obtain ⟨cb, co, cc, hat, hpv⟩ := ptr_at hf.1 hv hxb
        obtain ⟨cv, h7, h8⟩ := aload_ok hte h5 hf.1 hat
        refine ⟨cv :: vs, ?_, ?_, h4⟩
        · have e : (resSem a.tmps (.cell p t)).run P w = .ok cv w := by simp only [resSem, hpv, asAddr, Sem.run_bind, Sem.run_pure, Result.andThen_ok, h7]
          simp only [List.mapM_cons, Sem.run_bind, e, Sem.run_pure, Result.andThen_ok, h3]
        · unfold AV.cmp at h6
          split at h6
          · injection h6 with h6; subst h6; exact h8
          · injection h6 with h6; subst h6; exact h8
          · cases h6
      · cases h
    · cases h

theorem argSlots_ok {ρ : Env} : ∀ {cs : List Cmp} {vs : List Value} (t : Nat), Al2 (CC ρ) cs vs → CA ρ (argSlots cs t) (vs.getD t undef)
  | [], [], _, _ => trivial
  | c :: cs, v :: vs, 0, h => h.1.av
  | c :: cs, v :: vs, t + 1, h => by simpa [argSlots] using argSlots_ok (cs := cs) (vs := vs) t h.2
  | [], _ :: _, _, h => h.elim
  | _ :: _, [], _, h => h.elim

/-- **A contract out of a body's conditions.** -/
theorem acalls_of (hte : TEok P te) (hmx : P.follows .mixedOrders = true) {f : FuncId} {fn : Func} {c : Code} (hfn : P.funcs[f]? = some fn) (hb : fn.body = some c)
    (hent : ∀ args w, (callFunc f args).run P w = .ok (.enter f args) w) (hok : codeOk fn.ntmps c = true) (hrs : fn.results.toList.all (resOk fn.ntmps) = true)
    {args : List Cmp} (hlen : Nat.ble args.length fn.ntmps = true) {H : Heap} {R : AV → Heap → Prop} (h : VC P te c (argSlots args) H (PRet te fn.results R)) : ACallsR P f args H R := by
  refine ⟨hent, fun B ρ w cargs hr hargs => ?_⟩
  refine (callsIn_wide (n := 0)).1 (callsIn_of_wp hfn hb trivial ?_)
  have hl : cargs.length = args.length := hargs.length.symm
  have hlen := Nat.le_of_ble_eq_true hlen
  have hfit : Fits B fn.ntmps [] ρ (argSlots args) H { tmps := cargs.toArray ++ Array.replicate (fn.ntmps - cargs.toArray.size) undef, defers := [] } w := by
    refine ⟨hr, ?_, by simp; omega, rfl⟩
    intro t ht
    by_cases hlt : t < cargs.length
    · have := argSlots_ok (ρ := ρ) t hargs
      have e : (cargs.toArray ++ Array.replicate (fn.ntmps - cargs.toArray.size) undef).getD t undef = cargs.getD t undef := by
        simp [Array.getD, Array.getElem_append, hlt]
        intro h; omega
      rw [e]; exact this
    · have : argSlots args t = .any := by
        have : ∀ (cs : List Cmp) (t : Nat), cs.length ≤ t → argSlots cs t = .any := by
          intro cs
          induction cs with
          | nil => intro t _; rfl
          | cons c cs ih => intro t ht; cases t with
            | zero => simp at ht
            | succ t => exact ih t (by simpa using ht)
        exact this args t (by omega)
      rw [this]; trivial
  refine wpIn_mono (vc_ok (ro := none) hte hmx c _ H _ ρ _ w hok hfit h) ?_
  rintro e a' w' ⟨ρ', σ', H1, h1, h2, h3⟩
  have fin : ∀ r1, aresult te σ' H1 fn.results = some r1 → R r1 H1 → ∃ v, (results fn a'.tmps).run P w' = .ok v w' ∧ ∃ rv ρ' r H', Ending.returned v = .returned rv ∧ CA ρ' r rv ∧ Rel B ρ' H' w' ∧ Step ρ H w ρ' H' w' ∧ R r H' := by
    rintro r1 h4 hR
    unfold aresult at h4
    have key : ∀ cs, aresults te σ' H1 fn.results.toList = some cs → (match cs with | [c] => r1 = c.av | cs => r1 = .tup cs) → ∃ v, (results fn a'.tmps).run P w' = .ok v w' ∧ CA ρ' r1 v := by
      intro cs hcs hm
      obtain ⟨vs, h5, h6⟩ := aresults_ok hte h2 _ _ hrs hcs
      have hrun : (results fn a'.tmps).run P w' = .ok (if h : vs.toArray.size = 1 then vs.toArray[0] else .tuple vs.toArray) w' := by
        rw [results_eq, Array.mapM_eq_mapM_toList]
        simp only [Sem.run_bind, Sem.run_map]
        rw [h5]
        simp
      refine ⟨_, hrun, ?_⟩
      match cs, vs, h6, hm with
      | [], [], _, hm => subst hm; exact ⟨[], trivial, rfl⟩
      | [c], [v], h6, hm => subst hm; exact h6.1.av
      | c1 :: c2 :: cs, v1 :: v2 :: vs, h6, hm => subst hm; exact ⟨v1 :: v2 :: vs, h6, by simp⟩
      | [_], [], h6, _ => exact h6.elim
      | [_], _ :: _ :: _, h6, _ => exact h6.2.elim
      | [], _ :: _, h6, _ => exact h6.elim
      | _ :: _ :: _, [], h6, _ => exact h6.elim
      | _ :: _ :: _, [_], h6, _ => exact h6.2.elim
    split at h4
    · rename_i c' hcs
      injection h4 with h4
      obtain ⟨v, h7, h8⟩ := key [c'] hcs h4.symm
      exact ⟨v, h7, v, ρ', r1, H1, rfl, h8, h2.1, h1, hR⟩
    · rename_i cs hne hcs
      injection h4 with h4
      obtain ⟨v, h7, h8⟩ := key cs hcs (by
        split
        · rename_i c'; exact absurd rfl (hne c')
        · exact h4.symm)
      exact ⟨v, h7, v, ρ', r1, H1, rfl, h8, h2.1, h1, hR⟩
    · cases h4
  cases e with
  | normal => obtain ⟨r1, h4, h5⟩ := h3; exact ⟨h2.2.2.2, fin r1 h4 h5⟩
  | ret => obtain ⟨r1, h4, h5⟩ := h3; exact ⟨h2.2.2.2, fin r1 h4 h5⟩
  | _ => exact h3.elim
end

end Go.Abs
