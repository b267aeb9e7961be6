/-
  What a contract may forget; equality of structs.
-/
import Derived.Test.YtcgogenmikakkaaAbs9
namespace Go.Abs
set_option linter.unusedVariables false
set_option linter.unusedSimpArgs false
open Go.RowKit

/-! ### Forgetting what was made on the way -/
def persCmp : Cmp → Bool
  | .s x => pers x
  | .agg xs => xs.all pers
def persAV : AV → Bool
  | .s x => pers x
  | .agg xs => xs.all pers
  | .tup cs => cs.all persCmp
  | .any => false

def HExt (H H' : Heap) : Prop := H.n ≤ H'.n ∧ ∀ b, b < H.n → H'.m b = H.m b

theorem HExt.refl (H : Heap) : HExt H H := ⟨Nat.le_refl _, fun _ _ => rfl⟩
theorem HExt.trans {a b c : Heap} (h : HExt a b) (k : HExt b c) : HExt a c :=
  ⟨Nat.le_trans h.1 k.1, fun x hx => (k.2 x (Nat.lt_of_lt_of_le hx h.1)).trans (h.2 x hx)⟩
theorem HExt.push {a b : Heap} (h : HExt a b) (x : Blk) : HExt a (b.push x) :=
  ⟨by have := h.1; simp; omega, fun k hk => (Heap.push_ne _ _ (by have := h.1; omega)).trans (h.2 k hk)⟩
theorem HExt.set {a b : Heap} (h : HExt a b) {k : Nat} (hk : a.n ≤ k) (x : Option Blk) : HExt a (b.set k x) :=
  ⟨h.1, fun i hi => (Heap.set_ne _ _ _ (by omega)).trans (h.2 i hi)⟩

section
variable {ρ ρ' : Env} (hm : ∀ cb j v, ρ.mem cb j = some v → ρ'.mem cb j = some v)
include hm
theorem persL_al : ∀ {xs : List SV} {vs : List Value}, xs.all pers = true → Al2 (CS ρ) xs vs → Al2 (CS ρ') xs vs
  | [], [], _, _ => trivial
  | x :: xs, v :: vs, hr, h => by
    simp only [List.all_cons, Bool.and_eq_true] at hr
    exact ⟨pers_mono hm hr.1 h.1, persL_al hr.2 h.2⟩
  | [], _ :: _, _, h => h.elim
  | _ :: _, [], _, h => h.elim

theorem persCmp_ok {x : Cmp} {v : Value} (hr : persCmp x = true) (h : CC ρ x v) : CC ρ' x v := by
  cases x with
  | s x => exact pers_mono hm hr h
  | agg xs => obtain ⟨vs, h1, h2⟩ := h; exact ⟨vs, persL_al hm hr h1, h2⟩

theorem persCs_ok : ∀ {xs : List Cmp} {vs : List Value}, xs.all persCmp = true → Al2 (CC ρ) xs vs → Al2 (CC ρ') xs vs
  | [], [], _, _ => trivial
  | x :: xs, v :: vs, hr, h => by
    simp only [List.all_cons, Bool.and_eq_true] at hr
    exact ⟨persCmp_ok hm hr.1 h.1, persCs_ok hr.2 h.2⟩
  | [], _ :: _, _, h => h.elim
  | _ :: _, [], _, h => h.elim

theorem persAV_ok {x : AV} {v : Value} (hr : persAV x = true) (h : CA ρ x v) : CA ρ' x v := by
  cases x with
  | s x => exact pers_mono hm hr h
  | agg xs => obtain ⟨vs, h1, h2⟩ := h; exact ⟨vs, persL_al hm hr h1, h2⟩
  | tup xs => obtain ⟨vs, h1, h2⟩ := h; exact ⟨vs, persCs_ok hm hr h1, h2⟩
  | any => trivial
end

/-! #### What is written no more -/
/-- a value seen as one that does not change any more; the blocks from n on may be given up for it -/
def Frz (n : Nat) (H : Heap) (x y : SV) (H' : Heap) : Prop :=
  (x = y ∧ pers x = true ∧ H' = H) ∨ (x = .raw (.slice none 0 0) ∧ y = .vs 0 [] ∧ H' = H) ∨
  ∃ b off k gr blk m, x = .sl b off k gr ∧ n ≤ b ∧ H.m b = some blk ∧ blk.wr = true ∧ (∀ sv ∈ blk.cells, pers sv = true) ∧ y = .vs k ((blk.cells.drop off).take m) ∧ H' = H.set b none
def FrzL (n : Nat) : Heap → List SV → List SV → Heap → Prop
  | H, [], [], H' => H' = H
  | H, x :: xs, y :: ys, H' => ∃ H1, Frz n H x y H1 ∧ FrzL n H1 xs ys H'
  | _, _, _, _ => False
def FrzC (n : Nat) (H : Heap) : Cmp → Cmp → Heap → Prop
  | .s x, .s y, H' => Frz n H x y H'
  | .agg xs, .agg ys, H' => FrzL n H xs ys H'
  | _, _, _ => False
def FrzCs (n : Nat) : Heap → List Cmp → List Cmp → Heap → Prop
  | H, [], [], H' => H' = H
  | H, x :: xs, y :: ys, H' => ∃ H1, FrzC n H x y H1 ∧ FrzCs n H1 xs ys H'
  | _, _, _, _ => False
def FrzA (n : Nat) (H : Heap) : AV → AV → Heap → Prop
  | .s x, .s y, H' => Frz n H x y H'
  | .agg xs, .agg ys, H' => FrzL n H xs ys H'
  | .tup xs, .tup ys, H' => FrzCs n H xs ys H'
  | _, _, _ => False

/-- what a giving up brings about -/
def FrzTo (B n : Nat) (ρ : Env) (H : Heap) (w : World) (H' : Heap) (C : Env → Prop) : Prop :=
  ∃ ρ', Rel B ρ' H' w ∧ Step ρ H w ρ' H' w ∧ C ρ' ∧ H'.n = H.n ∧ ∀ b, b < n → H'.m b = H.m b

section
variable {B n : Nat} {ρ : Env} {H H' : Heap} {w : World}
theorem frz_ok (hr : Rel B ρ H w) {x y : SV} {v : Value} (hv : CS ρ x v) (h : Frz n H x y H') : FrzTo B n ρ H w H' fun ρ' => CS ρ' y v ∧ pers y = true := by
  rcases h with ⟨rfl, h1, rfl⟩ | ⟨rfl, rfl, rfl⟩ | ⟨b, off, k, gr, blk, m, rfl, h1, h2, h3, h4, rfl, rfl⟩
  · exact ⟨ρ, hr, Step.refl _ _ _, ⟨hv, h1⟩, rfl, fun _ _ => rfl⟩
  · refine ⟨ρ, hr, Step.refl _ _ _, ⟨?_, rfl⟩, rfl, fun _ _ => rfl⟩
    simp only [CS] at hv ⊢
    obtain ⟨rfl, _⟩ := hv
    exact ⟨none, 0, 0, 0, rfl, Nat.le_refl _, fun h => absurd rfl h, fun _ => rfl, by simp only [MS]⟩
  · obtain ⟨cb, co, cc, o, c, hat, hl, ho, hvv, _⟩ := sl_at hr hv h2
    obtain ⟨ρ', g1, g2, g3⟩ := hr.freeze hat h2 h3 h4
    refine ⟨ρ', g1, g2, ⟨?_, rfl⟩, rfl, fun b' hb' => Heap.set_ne _ _ _ (by omega)⟩
    simp only [CS]
    exact ⟨_, c, cb, co + off, hvv, hl, fun hne => by rw [ho hne], (fun h => nomatch h), MS_take (MS_drop g3 off) m⟩
theorem frzL_ok : ∀ {xs ys : List SV} {vs : List Value} {ρ : Env} {H : Heap}, Rel B ρ H w → Al2 (CS ρ) xs vs → FrzL n H xs ys H' → FrzTo B n ρ H w H' fun ρ' => Al2 (CS ρ') ys vs ∧ ys.all pers = true
  | [], [], [], ρ, H, hr, _, h => by simp only [FrzL] at h; subst h; exact ⟨ρ, hr, Step.refl _ _ _, ⟨trivial, rfl⟩, rfl, fun _ _ => rfl⟩
  | x :: xs, y :: ys, v :: vs, ρ, H, hr, hv, h => by
    simp only [FrzL] at h
    obtain ⟨H1, h1, h2⟩ := h
    obtain ⟨ρ1, a1, a2, ⟨a3, a4⟩, a5, a6⟩ := frz_ok hr hv.1 h1
    obtain ⟨ρ2, b1, b2, ⟨b3, b4⟩, b5, b6⟩ := frzL_ok a1 (hv.2.mono fun _ _ hh => hh.mono a2.le) h2
    exact ⟨ρ2, b1, a2.trans b2, ⟨⟨a3.mono b2.le, b3⟩, by simp [a4, b4]⟩, b5.trans a5, fun b hb => (b6 b hb).trans (a6 b hb)⟩
  | [], _ :: _, _, _, _, _, _, h => h.elim
  | _ :: _, [], _, _, _, _, _, h => h.elim
  | [], [], _ :: _, _, _, _, hv, _ => hv.elim
  | _ :: _, _ :: _, [], _, _, _, hv, _ => hv.elim
theorem frzC_ok (hr : Rel B ρ H w) {x y : Cmp} {v : Value} (hv : CC ρ x v) (h : FrzC n H x y H') : FrzTo B n ρ H w H' fun ρ' => CC ρ' y v ∧ persCmp y = true := by
  cases x with
  | s x => cases y with
    | s y => exact frz_ok hr hv h
    | agg _ => exact h.elim
  | agg xs => cases y with
    | s y => exact h.elim
    | agg ys =>
      obtain ⟨vs, h1, rfl⟩ := hv
      obtain ⟨ρ1, a1, a2, ⟨a3, a4⟩, a5, a6⟩ := frzL_ok hr h1 h
      exact ⟨ρ1, a1, a2, ⟨⟨vs, a3, rfl⟩, a4⟩, a5, a6⟩
theorem frzCs_ok : ∀ {xs ys : List Cmp} {vs : List Value} {ρ : Env} {H : Heap}, Rel B ρ H w → Al2 (CC ρ) xs vs → FrzCs n H xs ys H' → FrzTo B n ρ H w H' fun ρ' => Al2 (CC ρ') ys vs ∧ ys.all persCmp = true
  | [], [], [], ρ, H, hr, _, h => by simp only [FrzCs] at h; subst h; exact ⟨ρ, hr, Step.refl _ _ _, ⟨trivial, rfl⟩, rfl, fun _ _ => rfl⟩
  | x :: xs, y :: ys, v :: vs, ρ, H, hr, hv, h => by
    simp only [FrzCs] at h
    obtain ⟨H1, h1, h2⟩ := h
    obtain ⟨ρ1, a1, a2, ⟨a3, a4⟩, a5, a6⟩ := frzC_ok hr hv.1 h1
    obtain ⟨ρ2, b1, b2, ⟨b3, b4⟩, b5, b6⟩ := frzCs_ok a1 (hv.2.mono fun _ _ hh => hh.mono a2.le) h2
    exact ⟨ρ2, b1, a2.trans b2, ⟨⟨a3.mono b2.le, b3⟩, by simp [a4, b4]⟩, b5.trans a5, fun b hb => (b6 b hb).trans (a6 b hb)⟩
  | [], _ :: _, _, _, _, _, _, h => h.elim
  | _ :: _, [], _, _, _, _, _, h => h.elim
  | [], [], _ :: _, _, _, _, hv, _ => hv.elim
  | _ :: _, _ :: _, [], _, _, _, hv, _ => hv.elim
theorem frzA_ok (hr : Rel B ρ H w) {x y : AV} {v : Value} (hv : CA ρ x v) (h : FrzA n H x y H') : FrzTo B n ρ H w H' fun ρ' => CA ρ' y v ∧ persAV y = true := by
  cases x with
  | s x => cases y <;> first | exact frz_ok hr hv h | exact h.elim
  | agg xs => cases y with
    | agg ys =>
      obtain ⟨vs, h1, rfl⟩ := hv
      obtain ⟨ρ1, a1, a2, ⟨a3, a4⟩, a5, a6⟩ := frzL_ok hr h1 h
      exact ⟨ρ1, a1, a2, ⟨⟨vs, a3, rfl⟩, a4⟩, a5, a6⟩
    | _ => exact h.elim
  | tup xs => cases y with
    | tup ys =>
      obtain ⟨vs, h1, rfl⟩ := hv
      obtain ⟨ρ1, a1, a2, ⟨a3, a4⟩, a5, a6⟩ := frzCs_ok hr h1 h
      exact ⟨ρ1, a1, a2, ⟨⟨vs, a3, rfl⟩, a4⟩, a5, a6⟩
    | _ => exact h.elim
  | any => cases y <;> exact h.elim
end

theorem acalls_gc {P : Program} {f : FuncId} {args : List Cmp} {H : Heap} {r : AV} (h : ACallsR P f args H fun r1 H1 => HExt H H1 ∧ ∃ H2, FrzA H.n H1 r1 r H2) : ACalls P f args H r H := by
  refine ⟨h.1, fun B ρ w cargs hrel hargs => (h.2 B ρ w cargs hrel hargs).mono ?_⟩
  rintro e w' ⟨rv, ρ0, r1, H1, he, h1, h2, h3, hx, H2, hfz⟩
  obtain ⟨ρ', a1, a2, ⟨a3, a4⟩, a5, a6⟩ := frzA_ok h2 h1 hfz
  replace h3 := h3.trans a2
  replace hx : HExt H H2 := ⟨by rw [a5]; exact hx.1, fun b hb => (a6 b hb).trans (hx.2 b hb)⟩
  replace h2 := a1
  let ρ2 : Env := { loc := fun b => if b < H.n then ρ' b else Loc.absent, mem := ρ'.mem }
  have hag : ∀ b, ρ b ≠ .absent → ρ2 b = ρ' b := fun b hb => by
    have := hrel.lt hb
    simp [ρ2, this]
  have hold : ∀ b cb co cc, ρ2 b = .at_ cb co cc → b < H.n ∧ ρ' b = .at_ cb co cc ∧ ρ b = .at_ cb co cc := fun b cb co cc hb => by
    by_cases hlt : b < H.n
    · simp [ρ2, hlt] at hb
      refine ⟨hlt, hb, ?_⟩
      rcases h3.le b with h4 | h4 | h4
      · rw [h3.abs b hlt h4] at hb; cases hb
      · rw [← h4]; exact hb
      · rw [h4] at hb; cases hb
    · simp [ρ2, hlt] at hb
  have own2 : ∀ k, Own ρ2 H k → Own ρ' H2 k := by
    rintro k ⟨b, co, cc, x, g1, g2, g3⟩
    obtain ⟨hlt, g4, g5⟩ := hold _ _ _ _ g1
    exact ⟨b, co, cc, x, g4, by rw [hx.2 b hlt]; exact g2, g3⟩
  refine ⟨rv, ρ2, r, H, he, persAV_ok (ρ := ρ') (ρ' := ρ2) (fun _ _ _ h => h) a4 a3, ⟨⟨?_, ?_, ?_, ?_, ?_⟩, fun cb j v hv => ⟨(h2.imm cb j v hv).1, fun ho => (h2.imm cb j v hv).2 (own2 _ ho)⟩⟩, ⟨h3.os, h3.tape, h3.output, h3.size, h3.keep, ?_, ⟨?_, h3.le.mem⟩, ?_, Nat.le_refl _, ?_, h3.memn⟩, rfl, rfl⟩
  · exact h2.hB
  · intro b hb; simp [ρ2, Nat.not_lt.2 hb]
  · intro b x hb
    by_cases hlt : b < H.n
    · simp only [ρ2, hlt, if_true]; exact h2.live b x (by rw [hx.2 b hlt]; exact hb)
    · simp [ρ2, hlt]
  · intro b cb co cc x hb hm
    obtain ⟨hlt, h4, h5⟩ := hold b cb co cc hb
    obtain ⟨C, T, fz, k1, k2, k3, k4⟩ := h2.blk b cb co cc x h4 (by rw [hx.2 b hlt]; exact hm)
    obtain ⟨C0, T0, fz0, j1, j2, _⟩ := hrel.blk b cb co cc x h5 hm
    refine ⟨C, T, fz, k1, fun j sv hj => ?_, k3, k4⟩
    obtain ⟨v, k5, k6⟩ := k2 j sv hj
    obtain ⟨v0, _, j6⟩ := j2 j sv hj
    exact ⟨v, k5, CS_agr j6 hag (fun _ _ _ h => h) k6⟩
  · intro b b' cb co cc co' cc' x x' hne g1 g2 g3 g4
    obtain ⟨hl1, _, g1'⟩ := hold _ _ _ _ g1
    obtain ⟨hl2, _, g2'⟩ := hold _ _ _ _ g2
    exact hrel.sep b b' cb co cc co' cc' x x' hne g1' g2' g3 g4
  · rintro k ⟨b, co, cc, x, g1, g2, g3⟩
    obtain ⟨hlt, g4, g5⟩ := hold _ _ _ _ g1
    exact .inl ⟨b, co, cc, x, g5, g2, g3⟩
  · intro b
    by_cases hb : ρ b = .absent
    · exact .inl hb
    · rcases h3.le b with h4 | h4 | h4
      · exact absurd h4 hb
      · exact .inr (.inl ((hag b hb).trans h4))
      · exact .inr (.inr ((hag b hb).trans h4))
  · intro b cb co cc g1 g2
    obtain ⟨_, _, g3⟩ := hold _ _ _ _ g2
    rw [g3] at g1; cases g1
  · intro b hb ha
    simp [ρ2, hb, h3.abs b hb ha]

/-- A contract of a function that only computes: what it made is written no more. -/
theorem acalls_fz {P : Program} {te : Nat → Option TI} (hte : TEok P te) (hmx : P.follows .mixedOrders = true) {f : FuncId} {fn : Func} {c : Code} (hfn : P.funcs[f]? = some fn) (hb : fn.body = some c)
    (hent : ∀ args w, (callFunc f args).run P w = .ok (.enter f args) w) (hok : codeOk fn.ntmps c = true) (hrs : fn.results.toList.all (resOk fn.ntmps) = true)
    {args : List Cmp} (hlen : Nat.ble args.length fn.ntmps = true) {H : Heap} {r : AV} (h : VC P te c (argSlots args) H (PRet te fn.results fun r1 H1 => HExt H H1 ∧ ∃ H2, FrzA H.n H1 r1 r H2)) : ACalls P f args H r H :=
  acalls_gc (acalls_of hte hmx hfn hb hent hok hrs hlen h)

/-- a result that does not hang on the heap -/
theorem frz_self {n : Nat} {H : Heap} : ∀ {r r1 : AV}, r1 = r → persAV r = true → ∃ H2, FrzA n H r1 r H2 := by
  have keyL : ∀ {xs : List SV}, xs.all pers = true → FrzL n H xs xs H := by
    intro xs
    induction xs with
    | nil => intro _; simp [FrzL]
    | cons x xs ih => intro hp; simp only [List.all_cons, Bool.and_eq_true] at hp; exact ⟨H, .inl ⟨rfl, hp.1, rfl⟩, ih hp.2⟩
  intro r r1 he hp
  subst he
  cases r1 with
  | s x => exact ⟨H, .inl ⟨rfl, hp, rfl⟩⟩
  | agg xs => exact ⟨H, keyL hp⟩
  | tup cs =>
    refine ⟨H, ?_⟩
    show FrzCs n H cs cs H
    have hp : cs.all persCmp = true := hp
    induction cs with
    | nil => simp [FrzCs]
    | cons c cs ih =>
      simp only [List.all_cons, Bool.and_eq_true] at hp
      refine ⟨H, ?_, ih hp.2 hp.2⟩
      cases c with
      | s x => exact .inl ⟨rfl, hp.1, rfl⟩
      | agg xs => exact keyL hp.1
  | any => cases hp

/-- A contract of a function that only computes. -/
theorem acalls_pure {P : Program} {te : Nat → Option TI} (hte : TEok P te) (hmx : P.follows .mixedOrders = true) {f : FuncId} {fn : Func} {c : Code} (hfn : P.funcs[f]? = some fn) (hb : fn.body = some c)
    (hent : ∀ args w, (callFunc f args).run P w = .ok (.enter f args) w) (hok : codeOk fn.ntmps c = true) (hrs : fn.results.toList.all (resOk fn.ntmps) = true)
    {args : List Cmp} (hlen : Nat.ble args.length fn.ntmps = true) {H : Heap} {r : AV} (hr : persAV r = true) (h : VC P te c (argSlots args) H (PRet te fn.results fun r1 H1 => r1 = r ∧ HExt H H1)) : ACalls P f args H r H := by
  refine acalls_gc ?_
  have := acalls_of hte hmx hfn hb hent hok hrs hlen h
  refine ⟨this.1, fun B ρ w cargs h1 h2 => (this.2 B ρ w cargs h1 h2).mono ?_⟩
  rintro e w' ⟨rv, ρ', r1, H1, g1, g2, g3, g4, g5, g6⟩
  exact ⟨rv, ρ', r1, H1, g1, g2, g3, g4, g6, frz_self g5 hr⟩

/-- a call whose arguments are seen as ones that do not change any more -/
theorem acallsR_frz {P : Program} {f : FuncId} {cs cs' : List Cmp} {H H1 : Heap} {R : AV → Heap → Prop} (h : FrzCs 0 H cs cs' H1) (k : ACallsR P f cs' H1 R) : ACallsR P f cs H R := by
  refine ⟨k.1, fun B ρ w cargs hrel hargs => ?_⟩
  obtain ⟨ρ1, a1, a2, ⟨a3, _⟩, _, _⟩ := frzCs_ok hrel hargs h
  refine (k.2 B ρ1 w cargs a1 a3).mono ?_
  rintro e w' ⟨rv, ρ0, r1, H2, he, h1, h2, h3, hR⟩
  exact ⟨rv, ρ0, r1, H2, he, h1, h2, a2.trans h3, hR⟩
theorem callv_frz {P : Program} {f : FuncId} {cs cs' : List Cmp} {H H1 : Heap} {K : AV → Heap → Prop} (h : FrzCs 0 H cs cs' H1) (k : CallV P f cs' H1 K) : CallV P f cs H K := by
  obtain ⟨R, k1, k2⟩ := k
  exact ⟨R, acallsR_frz h k1, k2⟩
/-- nil, or not nil: a contract of a slice without elements -/
theorem acallsR_empty {P : Program} {f : FuncId} {cs : List Cmp} {H : Heap} {R : AV → Heap → Prop} (h1 : ACallsR P f (.s (.raw (.slice none 0 0)) :: cs) H R) (h2 : ACallsR P f (.s .ve :: cs) H R) : ACallsR P f (.s (.vs 0 []) :: cs) H R := by
  refine ⟨h1.1, fun B ρ w cargs hrel hargs => ?_⟩
  cases cargs with
  | nil => exact hargs.elim
  | cons v vs =>
    obtain ⟨hv, hvs⟩ := hargs
    simp only [CC, CS] at hv
    obtain ⟨a, c, cb, co, rfl, hn, _, hcn, _⟩ := hv
    cases a with
    | some a => exact h2.2 B ρ w _ hrel ⟨by simp only [CC, CS]; exact ⟨a, c, rfl⟩, hvs⟩
    | none =>
      have hc := hcn rfl
      subst hc; exact h1.2 B ρ w _ hrel ⟨by simp [CC, CS, scal], hvs⟩

/-! ### Small rules for the conditions -/
@[simp] theorem upd_some (σ : Slots) (d : Nat) (v : AV) (t : Nat) : Upd σ (some d) v t = if t = d then v else σ t := rfl
@[simp] theorem upd_none (σ : Slots) (v : AV) : Upd σ none v = σ := rfl
@[simp] theorem push_m (H : Heap) (x : Blk) (k : Nat) : (H.push x).m k = if k = H.n then some x else H.m k := rfl
@[simp] theorem set_m (H : Heap) (b : Nat) (x : Option Blk) (k : Nat) : (H.set b x).m k = if k = b then x else H.m k := rfl
/-! The conditions, in a form in which one thing is looked at at a time. -/
def bA (x : Option (AV × Heap)) (k : AV → Heap → Prop) : Prop :=
  match x with
  | some (r, H) => k r H
  | none => False
def bI (b : Bool) (x y : Prop) : Prop :=
  match b with
  | true => x
  | false => y
def bW (x : Option Bool) (t f : Prop) : Prop :=
  match x with
  | some b => bI b t f
  | none => False
def bC (x : Option (FuncId × List Cmp)) (k : FuncId → List Cmp → Prop) (n : Prop) : Prop :=
  match x with
  | some (f, cs) => k f cs
  | none => n
def bB (v : AV) (k : Bool → Prop) : Prop :=
  match v with
  | .s (.raw (.bool b)) => k b
  | _ => False
theorem bA_some (r : AV) (H : Heap) (k : AV → Heap → Prop) : bA (some (r, H)) k = k r H := rfl
theorem bW_some (b : Bool) (t f : Prop) : bW (some b) t f = bI b t f := rfl
theorem bC_some (f : FuncId) (cs : List Cmp) (k : FuncId → List Cmp → Prop) (n : Prop) : bC (some (f, cs)) k n = k f cs := rfl
theorem bC_none (k : FuncId → List Cmp → Prop) (n : Prop) : bC none k n = n := rfl
theorem bB_raw (b : Bool) (k : Bool → Prop) : bB (.s (.raw (.bool b))) k = k b := rfl
theorem bI_true (x y : Prop) : bI true x y = x := rfl
theorem bI_false (x y : Prop) : bI false x y = y := rfl
theorem bI_not (b : Bool) (x y : Prop) : bI (!b) x y = bI b y x := by cases b <;> rfl
theorem bI_split {b : Bool} {x y : Prop} (h : b = true → x) (h' : b = false → y) : bI b x y := by cases b; exact h' rfl; exact h rfl
@[congr] theorem bA_congr {x x' : Option (AV × Heap)} {k : AV → Heap → Prop} (h : x = x') : bA x k = bA x' k := by rw [h]
@[congr] theorem bI_congr {x x' : Bool} {t f : Prop} (h : x = x') : bI x t f = bI x' t f := by rw [h]
@[congr] theorem bW_congr {x x' : Option Bool} {t f : Prop} (h : x = x') : bW x t f = bW x' t f := by rw [h]
@[congr] theorem bC_congr {x x' : Option (FuncId × List Cmp)} {k : FuncId → List Cmp → Prop} {n : Prop} (h : x = x') : bC x k n = bC x' k n := by rw [h]
@[congr] theorem bB_congr {x x' : AV} {k : Bool → Prop} (h : x = x') : bB x k = bB x' k := by rw [h]
@[congr] theorem callv_congr {P : Program} {f : FuncId} {args args' : List Cmp} {H H' : Heap} {K : AV → Heap → Prop} (h : args = args') (h2 : H = H') : CallV P f args H K = CallV P f args' H' K := by rw [h, h2]
@[congr] theorem vops_congr {P : Program} {te : Nat → Option TI} {all : Array Oper} {l : List Oper} {σ : Slots} {H H' : Heap} {K : Slots → Heap → Prop} (h : H = H') : VOps P te all l σ H K = VOps P te all l σ H' K := by rw [h]
@[congr] theorem vd_congr {P : Program} {te : Nat → Option TI} {all : Array Oper} {l : List Oper} {σ : Slots} {H H' : Heap} {K : Slots → Heap → Prop} (h : H = H') : VD P te all l σ H K = VD P te all l σ H' K := by rw [h]
@[congr] theorem vc_congr {P : Program} {te : Nat → Option TI} {c : Code} {σ : Slots} {H H' : Heap} {Q : Post} (h : H = H') : VC P te c σ H Q = VC P te c σ H' Q := by rw [h]

section
variable {P : Program} {te : Nat → Option TI} {σ : Slots} {H : Heap} {Q : Post}
theorem vops_nil {all : Array Oper} {K : Slots → Heap → Prop} : VOps P te all [] σ H K = K σ H := rfl
theorem vops_cons {all : Array Oper} {o : Oper} {rest : List Oper} {K : Slots → Heap → Prop} : VOps P te all (o :: rest) σ H K =
    bW (wantedA all σ o) (bC (callOf σ o.op) (fun f args => CallV P f args H fun r H' => VOps P te all rest (Upd σ o.dst r) H' K) (bA (aop te σ H o.op) fun r H' => VOps P te all rest (Upd σ o.dst r) H' K)) (VOps P te all rest (Upd σ o.dst (.tup [])) H K) := by
  rw [VOps]
  cases wantedA all σ o with
  | none => rfl
  | some b => cases b with
    | false => rfl
    | true =>
      simp only [bW_some, bI_true]
      cases callOf σ o.op with
      | some x => rfl
      | none => cases aop te σ H o.op <;> rfl
/-- an equation of which the right side is to be found -/
def IsA {α : Type} (x y : α) : Prop := x = y
theorem IsA.rfl {α : Type} {x : α} : IsA x x := Eq.refl x
@[congr] theorem isA_congr {α : Type} {x x' y : α} (h : x = x') : IsA x y = IsA x' y := by rw [h]
/-- one operation that is carried out -/
def VX (P : Program) (te : Nat → Option TI) (all : Array Oper) (op : Op) (d : Option Tmp) (rest : List Oper) (σ : Slots) (H : Heap) (K : Slots → Heap → Prop) : Prop :=
  bC (callOf σ op) (fun f args => CallV P f args H fun r H' => VOps P te all rest (Upd σ d r) H' K) (bA (aop te σ H op) fun r H' => VOps P te all rest (Upd σ d r) H' K)
theorem vops_ng {all : Array Oper} {d : Option Tmp} {op : Op} {ty : TypeId} {pos : String} {af : Array Edge} {rest : List Oper} {K : Slots → Heap → Prop} (h : VX P te all op d rest σ H K) : VOps P te all (⟨d, op, ty, pos, af, none⟩ :: rest) σ H K := by
  rw [vops_cons]; exact h
theorem vops_g {all : Array Oper} {o : Oper} {rest : List Oper} {K : Slots → Heap → Prop} {b : Bool} (hw : IsA (wantedA all σ o) (some b)) (h : bI b (VX P te all o.op o.dst rest σ H K) (VOps P te all rest (Upd σ o.dst (.tup [])) H K)) : VOps P te all (o :: rest) σ H K := by
  unfold IsA at hw; rw [vops_cons, hw, bW_some]; exact h
theorem vops_gt {all : Array Oper} {d : Option Tmp} {op : Op} {ty : TypeId} {pos : String} {af : Array Edge} {g : Option (Nat × Bool)} {rest : List Oper} {K : Slots → Heap → Prop} (hw : wantedA all σ ⟨d, op, ty, pos, af, g⟩ = some true) (h : VX P te all op d rest σ H K) : VOps P te all (⟨d, op, ty, pos, af, g⟩ :: rest) σ H K := by
  rw [vops_cons, hw, bW_some]; exact h
theorem vops_gf {all : Array Oper} {d : Option Tmp} {op : Op} {ty : TypeId} {pos : String} {af : Array Edge} {g : Option (Nat × Bool)} {rest : List Oper} {K : Slots → Heap → Prop} (hw : wantedA all σ ⟨d, op, ty, pos, af, g⟩ = some false) (h : VOps P te all rest (Upd σ d (.tup [])) H K) : VOps P te all (⟨d, op, ty, pos, af, g⟩ :: rest) σ H K := by
  rw [vops_cons, hw, bW_some]; exact h
def isVCall : Op → Bool
  | .call { callee := .value _, .. } => true
  | _ => false
theorem callOf_none {op : Op} (h : isVCall op = false) : callOf σ op = none := by
  unfold callOf
  split
  · simp [isVCall] at h
  · rfl
theorem vx_op {all : Array Oper} {d : Option Tmp} {op : Op} {rest : List Oper} {K : Slots → Heap → Prop} {r : AV} {H' : Heap} (hc : isVCall op = false) (ha : IsA (aop te σ H op) (some (r, H'))) (h : VOps P te all rest (Upd σ d r) H' K) : VX P te all op d rest σ H K := by
  unfold IsA at ha; unfold VX; rw [callOf_none hc, ha]; exact h
theorem vx_call {all : Array Oper} {d : Option Tmp} {f : FuncId} {args : List Operand} {ts : Array TypeId} {rest : List Oper} {K : Slots → Heap → Prop} {cs : List Cmp} (hc : IsA (cmps (args.map (ev σ))) (some cs))
    (h : CallV P f cs H fun r H' => VOps P te all rest (Upd σ d r) H' K) : VX P te all (.call { callee := .value (.func f), args := args.toArray, argTypes := ts }) d rest σ H K := by
  unfold IsA at hc; unfold VX
  have : callOf σ (.call { callee := .value (.func f), args := args.toArray, argTypes := ts }) = some (f, cs) := by simp [callOf, ev, hc]
  rw [this]; exact h
theorem vc_cond' {c : Operand} {x y : Code} {b : Bool} (hc : IsA (ev σ c) (.s (.raw (.bool b)))) (h : bI b (VC P te x σ H Q) (VC P te y σ H Q)) : VC P te (.cond c x y) σ H Q := by
  unfold IsA at hc; rw [VC, hc]; cases b <;> simpa [bI] using h
theorem vops_nil' {all : Array Oper} {K : Slots → Heap → Prop} (h : K σ H) : VOps P te all [] σ H K := h
theorem pthen_ni {K : Slots → Heap → Prop} (h : K σ H) : PThen K Q .normal σ H := h
theorem pthen_ri {K : Slots → Heap → Prop} (h : Q .ret σ H) : PThen K Q .ret σ H := h
theorem pthen_ei {K : Slots → Heap → Prop} {id : Nat} (h : Q (.exit id) σ H) : PThen K Q (.exit id) σ H := h
theorem pblock_ni {id : Nat} (h : Q .normal σ H) : PBlock id Q .normal σ H := h
theorem pblock_ri {id : Nat} (h : Q .ret σ H) : PBlock id Q .ret σ H := h
theorem pblock_ei {id : Nat} (h : Q .normal σ H) : PBlock id Q (.exit id) σ H := by simpa [PBlock] using h
theorem pblock_en {id i : Nat} (hn : Nat.beq i id = false) (h : Q (.exit i) σ H) : PBlock id Q (.exit i) σ H := by
  have : ¬ i = id := Nat.ne_of_beq_eq_false hn
  simpa [PBlock, this] using h
theorem vc_skip_i (h : Q .normal σ H) : VC P te .skip σ H Q := h
theorem vc_ret_i (h : Q .ret σ H) : VC P te .ret σ H Q := h
theorem vc_exit_i {id : Nat} (h : Q (.exit id) σ H) : VC P te (.exit id) σ H Q := h
theorem vc_block_i {id : Nat} {c : Code} (h : VC P te c σ H (PBlock id Q)) : VC P te (.block id c) σ H Q := h
theorem pret_ri {rs : Array ResultVar} {K : AV → Heap → Prop} {r : AV} (hr : IsA (aresult te σ H rs) (some r)) (h : K r H) : PRet te rs K .ret σ H := ⟨r, hr, h⟩
theorem pret_ni {rs : Array ResultVar} {K : AV → Heap → Prop} {r : AV} (hr : IsA (aresult te σ H rs) (some r)) (h : K r H) : PRet te rs K .normal σ H := ⟨r, hr, h⟩
theorem bI_ti {x y : Prop} (h : x) : bI true x y := h
theorem bI_fi {x y : Prop} (h : y) : bI false x y := h
theorem bI_ni {b : Bool} {x y : Prop} (h : bI b y x) : bI (!b) x y := by rw [bI_not]; exact h
theorem vd_nil {all : Array Oper} {K : Slots → Heap → Prop} : VD P te all [] σ H K = K σ H := rfl
theorem vd_cons {all : Array Oper} {o : Oper} {rest : List Oper} {K : Slots → Heap → Prop} : VD P te all (o :: rest) σ H K =
    bW (wantedA all σ o) (bC (callOf σ o.op) (fun f args => ∃ r H', ACalls P f args H r H' ∧ HExtR H H' ∧ VD P te all rest (Upd σ o.dst r) H' K) (bA (aop te σ H o.op) fun r H' => (match opKind o.op with | 0 => H' = H | 1 => HExtR H H' | _ => True) ∧ VD P te all rest (Upd σ o.dst r) H' K)) (VD P te all rest (Upd σ o.dst (.tup [])) H K) := by
  rw [VD]
  cases wantedA all σ o with
  | none => rfl
  | some b => cases b with
    | false => rfl
    | true =>
      simp only [bW_some, bI_true]
      cases callOf σ o.op with
      | some x => rfl
      | none => cases aop te σ H o.op <;> rfl
theorem vc_skip : VC P te .skip σ H Q = Q .normal σ H := rfl
theorem vc_region {id : Nat} {l : List Oper} : VC P te (.region id l.toArray false) σ H Q = VOps P te l.toArray l σ H (Q .normal) := rfl
theorem vc_draw {id : Nat} {l : List Oper} : VC P te (.region id l.toArray true) σ H Q = (drawOk l.toArray = true ∧ VD P te l.toArray l σ H (Q .normal)) := rfl
/-- what comes behind, behind a name -/
theorem vc_seq' {x y : Code} (h : ∀ K : Slots → Heap → Prop, (∀ σ H σ1 H1, Weak σ H σ1 H1 → VC P te y σ1 H1 Q → K σ H) → VC P te x σ H (PThen K Q)) : VC P te (.seq x y) σ H Q := h _ fun _ _ _ _ hw h => ⟨_, _, hw, h⟩
theorem use_k {A K : Slots → Heap → Prop} (h : ∀ σ H, A σ H → K σ H) (h' : A σ H) : K σ H := h _ _ h'
theorem vc_region' {id : Nat} {l : List Oper} (h : ∀ K : Slots → Heap → Prop, (∀ σ H, Q .normal σ H → K σ H) → VOps P te l.toArray l σ H K) : VC P te (.region id l.toArray false) σ H Q := h _ fun _ _ h => h
theorem vc_cond {c : Operand} {x y : Code} : VC P te (.cond c x y) σ H Q = bB (ev σ c) fun b => bI b (VC P te x σ H Q) (VC P te y σ H Q) := by
  rw [VC]
  generalize ev σ c = v
  unfold bB
  split
  · rename_i b; cases b <;> simp [bI]
  · rename_i h
    split
    · exact absurd rfl (h _)
    · rfl
theorem vc_block {id : Nat} {c : Code} : VC P te (.block id c) σ H Q = VC P te c σ H (PBlock id Q) := rfl
theorem vc_exit {id : Nat} : VC P te (.exit id) σ H Q = Q (.exit id) σ H := rfl
theorem vc_ret : VC P te .ret σ H Q = Q .ret σ H := rfl
theorem pthen_n {K : Slots → Heap → Prop} : PThen K Q .normal σ H = K σ H := rfl
theorem pthen_n' {K : Slots → Heap → Prop} : PThen K Q .normal = K := rfl
theorem pthen_e {K : Slots → Heap → Prop} {id : Nat} : PThen K Q (.exit id) σ H = Q (.exit id) σ H := rfl
theorem pthen_r {K : Slots → Heap → Prop} : PThen K Q .ret σ H = Q .ret σ H := rfl
theorem pblock_n {id : Nat} : PBlock id Q .normal σ H = Q .normal σ H := rfl
theorem pblock_n' {id : Nat} : PBlock id Q .normal = Q .normal := rfl
theorem pblock_r {id : Nat} : PBlock id Q .ret σ H = Q .ret σ H := rfl
theorem pblock_e {id i : Nat} : PBlock id Q (.exit i) σ H = if i = id then Q .normal σ H else Q (.exit i) σ H := rfl
theorem pret_r {rs : List ResultVar} {K : AV → Heap → Prop} : PRet te rs.toArray K .ret σ H = ∃ r, aresult te σ H rs.toArray = some r ∧ K r H := rfl
theorem pret_n {rs : List ResultVar} {K : AV → Heap → Prop} : PRet te rs.toArray K .normal σ H = ∃ r, aresult te σ H rs.toArray = some r ∧ K r H := rfl
theorem callOf_fn {f : FuncId} {args : List Operand} {ts : Array TypeId} : callOf σ (.call { callee := .value (.func f), args := args.toArray, argTypes := ts }) = (cmps (args.map (ev σ))).map fun cs => (f, cs) := by
  simp [callOf, ev]
end
theorem wantedA_none {ops : Array Oper} {σ : Slots} {d : Option Tmp} {op : Op} {ty : TypeId} {pos : String} {af : Array Edge} : wantedA ops σ ⟨d, op, ty, pos, af, none⟩ = some true := rfl

theorem pers_raw (v : Value) : pers (.raw v) = true := rfl
theorem pers_vs (n : Nat) (l : List SV) : pers (.vs n l) = true := rfl
theorem pers_vp (l : List SV) : pers (.vp l) = true := rfl
theorem pers_ve : pers .ve = true := rfl
attribute [go_sem] pers_raw pers_vs pers_vp pers_ve aloadV
attribute [go_sem] wantedA aop abuiltin aslice oint aload astore setAll afill zrep ptrs abin aint ev scal AV.cmp AV.cells Cmp.av cmps argSlots TI.isAgg rawL upd_some upd_none push_m set_m Heap.push_n Heap.set_n aresult aresults eqL eqV shapeL sameK
attribute [go_sem] List.all_cons List.all_nil List.all_append List.toList_toArray List.map_cons List.map_nil Option.map_some Option.map_none Option.bind_some if_true if_false ite_self List.getElem?_toArray List.getElem?_cons_succ List.getElem?_cons_zero List.getElem?_nil List.length_cons List.length_nil List.drop_zero List.drop_succ_cons List.drop_nil List.take_succ_cons List.take_zero List.take_nil List.set_cons_zero List.set_cons_succ List.set_nil List.cons_append List.nil_append List.append_nil Nat.add_zero Nat.zero_add Nat.left_eq_add Nat.add_eq_left Nat.add_left_cancel_iff decide_true decide_false Bool.not_true Bool.not_false Bool.not_not Bool.false_eq_true Bool.true_eq_false ne_eq not_true_eq_false not_false_eq_true and_true true_and and_self and_false false_and Nat.succ_ne_self Nat.le_refl Nat.one_ne_zero beq_true beq_false List.size_toArray Int.toNat_zero eq_self Bool.and_true Bool.true_and Bool.false_and Bool.and_false Bool.true_or Bool.false_or Bool.or_true Bool.or_false Bool.true_eq_false

/-! ### Equality of structs, field by field -/
section
variable {P : Program} {d : Nat} {xs ys : Array Value} {f : Field} {fs : List Field} {u v : Value} {r s : Bool} {w : World}
theorem eqf_cons (hn : (f.name == "_") = false) (ha : (part f.type xs f.offset).run P w = .ok u w) (hb : (part f.type ys f.offset).run P w = .ok v w) (he : (Op.equalIn d f.type u v).run P w = .ok r w) (hr : (Op.eqFields d xs ys fs).run P w = .ok s w) : (Op.eqFields d xs ys (f :: fs)).run P w = .ok (r && s) w := by
  have hn' : f.name ≠ "_" := by simpa using hn
  rw [Op.eqFields]
  simp only [if_pos hn', Sem.run_bind, ha, hb, he, Result.andThen_ok]
  cases r
  · simp
  · simpa using hr
theorem eqf_nil : (Op.eqFields d xs ys []).run P w = .ok true w := by simp [Op.eqFields]
theorem eqA_of {t : TypeId} {fs : Array Field} (hu : P.underlying t = some (.struct fs)) (hp : P.stoodInHeld t = false) (h : (Op.eqFields d xs ys fs.toList).run P w = .ok r w) : (Op.equalIn (d + 1) t (.agg xs) (.agg ys)).run P w = .ok r w := by
  have hf : P.fieldsOf t = fs := by simp [Program.fieldsOf, hu]
  rw [run_equalIn_struct (P := P) w d t xs ys (by rw [hf]; exact hu) hp, hf]
  exact h
theorem run_part_int {t : TypeId} {k : IntKind} {off : Nat} (hu : P.underlying t = some (.int k)) (h : xs[off]? = some v) : (part t xs off).run P w = .ok v w := by
  simp [part, isAgg, Go.run_underlying hu, h]
theorem run_part_bool {t : TypeId} {off : Nat} (hu : P.underlying t = some .bool) (h : xs[off]? = some v) : (part t xs off).run P w = .ok v w := by
  simp [part, isAgg, Go.run_underlying hu, h]
theorem run_part_agg {t : TypeId} {off n : Nat} {fs : Array Field} (hu : P.underlying t = some (.struct fs)) (hs : P.cellsOf t = n) (hn : n ≠ 0) : (part t xs off).run P w = .ok (.agg (xs.extract off (off + n))) w := by
  unfold Program.cellsOf at hs
  cases hi : P.info? t with
  | none => simp [hi] at hs; exact absurd hs.symm hn
  | some i => simp [hi] at hs; simp [part, isAgg, Go.run_underlying hu, sizeOf, typeInfo, hi, hs]
end

theorem shape_int {k : IntKind} {n : Int} {zs xs : List Value} (h : shapeL (.int k n :: zs) xs = true) : ∃ (a : Int) (xs' : List Value), xs = .int k a :: xs' ∧ shapeL zs xs' = true := by
  cases xs with
  | nil => simp [shapeL] at h
  | cons x xs =>
    simp only [shapeL, Bool.and_eq_true] at h
    obtain ⟨h1, h2⟩ := h
    cases x <;> simp [sameK] at h1
    subst h1
    exact ⟨_, xs, rfl, h2⟩
theorem shape_bool {n : Bool} {zs xs : List Value} (h : shapeL (.bool n :: zs) xs = true) : ∃ (a : Bool) (xs' : List Value), xs = .bool a :: xs' ∧ shapeL zs xs' = true := by
  cases xs with
  | nil => simp [shapeL] at h
  | cons x xs =>
    simp only [shapeL, Bool.and_eq_true] at h
    obtain ⟨h1, h2⟩ := h
    cases x <;> simp [sameK] at h1
    exact ⟨_, xs, rfl, h2⟩
theorem shape_nil {xs : List Value} (h : shapeL [] xs = true) : xs = [] := by cases xs <;> simp [shapeL] at h <;> rfl

end Go.Abs
