/-
  Joined texts: Abs10 Abs11 S0 Abs12 Abs13.
-/
import Derived.Test.YtcgogenmikakkaaB1
/-
  What a contract may forget; equality of structs.
-/
namespace Go.Abs
set_option linter.unusedVariables false
set_option linter.unusedSimpArgs false
open Go.RowKit

/-! ### Forgetting what was made on the way -/
def persCmp : Cmp → Bool
  | .s x => pers x
  | .agg xs => xs.all pers
def persAV : AV → Bool
  | .s x => pers x
  | .agg xs => xs.all pers
  | .tup cs => cs.all persCmp
  | .any => false

def HExt (H H' : Heap) : Prop := H.n ≤ H'.n ∧ ∀ b, b < H.n → H'.m b = H.m b

theorem HExt.refl (H : Heap) : HExt H H := ⟨Nat.le_refl _, fun _ _ => rfl⟩
theorem HExt.trans {a b c : Heap} (h : HExt a b) (k : HExt b c) : HExt a c :=
  ⟨Nat.le_trans h.1 k.1, fun x hx => (k.2 x (Nat.lt_of_lt_of_le hx h.1)).trans (h.2 x hx)⟩
theorem HExt.push {a b : Heap} (h : HExt a b) (x : Blk) : HExt a (b.push x) :=
  ⟨by have := h.1; simp; omega, fun k hk => (Heap.push_ne _ _ (by have := h.1; omega)).trans (h.2 k hk)⟩
theorem HExt.set {a b : Heap} (h : HExt a b) {k : Nat} (hk : a.n ≤ k) (x : Option Blk) : HExt a (b.set k x) :=
  ⟨h.1, fun i hi => (Heap.set_ne _ _ _ (by omega)).trans (h.2 i hi)⟩

section
variable {ρ ρ' : Env} (hm : ∀ cb j v, ρ.mem cb j = some v → ρ'.mem cb j = some v)
include hm
theorem persL_al : ∀ {xs : List SV} {vs : List Value}, xs.all pers = true → Al2 (CS ρ) xs vs → Al2 (CS ρ') xs vs
  | [], [], _, _ => trivial
  | x :: xs, v :: vs, hr, h => by
    simp only [List.all_cons, Bool.and_eq_true] at hr
    exact ⟨pers_mono hm hr.1 h.1, persL_al hr.2 h.2⟩
  | [], _ :: _, _, h => h.elim
  | _ :: _, [], _, h => h.elim

theorem persCmp_ok {x : Cmp} {v : Value} (hr : persCmp x = true) (h : CC ρ x v) : CC ρ' x v := by
  cases x with
  | s x => exact pers_mono hm hr h
  | agg xs => obtain ⟨vs, h1, h2⟩ := h; exact ⟨vs, persL_al hm hr h1, h2⟩

theorem persCs_ok : ∀ {xs : List Cmp} {vs : List Value}, xs.all persCmp = true → Al2 (CC ρ) xs vs → Al2 (CC ρ') xs vs
  | [], [], _, _ => trivial
  | x :: xs, v :: vs, hr, h => by
    simp only [List.all_cons, Bool.and_eq_true] at hr
    exact ⟨persCmp_ok hm hr.1 h.1, persCs_ok hr.2 h.2⟩
  | [], _ :: _, _, h => h.elim
  | _ :: _, [], _, h => h.elim

theorem persAV_ok {x : AV} {v : Value} (hr : persAV x = true) (h : CA ρ x v) : CA ρ' x v := by
  cases x with
  | s x => exact pers_mono hm hr h
  | agg xs => obtain ⟨vs, h1, h2⟩ := h; exact ⟨vs, persL_al hm hr h1, h2⟩
  | tup xs => obtain ⟨vs, h1, h2⟩ := h; exact ⟨vs, persCs_ok hm hr h1, h2⟩
  | any => trivial
end

/-! #### What is written no more -/
/-- a value seen as one that does not change any more; the blocks from n on may be given up for it -/
def Frz (n : Nat) (H : Heap) (x y : SV) (H' : Heap) : Prop :=
  (x = y ∧ pers x = true ∧ H' = H) ∨ (x = .raw (.slice none 0 0) ∧ y = .vs 0 [] ∧ H' = H) ∨
  ∃ b off k gr blk m, x = .sl b off k gr ∧ n ≤ b ∧ H.m b = some blk ∧ blk.wr = true ∧ (∀ sv ∈ blk.cells, pers sv = true) ∧ y = .vs k ((blk.cells.drop off).take m) ∧ H' = H.set b none
def FrzL (n : Nat) : Heap → List SV → List SV → Heap → Prop
  | H, [], [], H' => H' = H
  | H, x :: xs, y :: ys, H' => ∃ H1, Frz n H x y H1 ∧ FrzL n H1 xs ys H'
  | _, _, _, _ => False
def FrzC (n : Nat) (H : Heap) : Cmp → Cmp → Heap → Prop
  | .s x, .s y, H' => Frz n H x y H'
  | .agg xs, .agg ys, H' => FrzL n H xs ys H'
  | _, _, _ => False
def FrzCs (n : Nat) : Heap → List Cmp → List Cmp → Heap → Prop
  | H, [], [], H' => H' = H
  | H, x :: xs, y :: ys, H' => ∃ H1, FrzC n H x y H1 ∧ FrzCs n H1 xs ys H'
  | _, _, _, _ => False
def FrzA (n : Nat) (H : Heap) : AV → AV → Heap → Prop
  | .s x, .s y, H' => Frz n H x y H'
  | .agg xs, .agg ys, H' => FrzL n H xs ys H'
  | .tup xs, .tup ys, H' => FrzCs n H xs ys H'
  | _, _, _ => False

/-- what a giving up brings about -/
def FrzTo (B n : Nat) (ρ : Env) (H : Heap) (w : World) (H' : Heap) (C : Env → Prop) : Prop :=
  ∃ ρ', Rel B ρ' H' w ∧ Step ρ H w ρ' H' w ∧ C ρ' ∧ H'.n = H.n ∧ ∀ b, b < n → H'.m b = H.m b

section
variable {B n : Nat} {ρ : Env} {H H' : Heap} {w : World}
theorem frz_ok (hr : Rel B ρ H w) {x y : SV} {v : Value} (hv : CS ρ x v) (h : Frz n H x y H') : FrzTo B n ρ H w H' fun ρ' => CS ρ' y v ∧ pers y = true := by
  rcases h with ⟨rfl, h1, rfl⟩ | ⟨rfl, rfl, rfl⟩ | ⟨b, off, k, gr, blk, m, rfl, h1, h2, h3, h4, rfl, rfl⟩
  · exact ⟨ρ, hr, Step.refl _ _ _, ⟨hv, h1⟩, rfl, fun _ _ => rfl⟩
  · refine ⟨ρ, hr, Step.refl _ _ _, ⟨?_, rfl⟩, rfl, fun _ _ => rfl⟩
    simp only [CS] at hv ⊢
    obtain ⟨rfl, _⟩ := hv
    exact ⟨none, 0, 0, 0, rfl, Nat.le_refl _, fun h => absurd rfl h, fun _ => rfl, by simp only [MS]⟩
  · obtain ⟨cb, co, cc, o, c, hat, hl, ho, hvv, _⟩ := sl_at hr hv h2
    obtain ⟨ρ', g1, g2, g3⟩ := hr.freeze hat h2 h3 h4
    refine ⟨ρ', g1, g2, ⟨?_, rfl⟩, rfl, fun b' hb' => Heap.set_ne _ _ _ (by omega)⟩
    simp only [CS]
    exact ⟨_, c, cb, co + off, hvv, hl, fun hne => by rw [ho hne], (fun h => nomatch h), MS_take (MS_drop g3 off) m⟩
theorem frzL_ok : ∀ {xs ys : List SV} {vs : List Value} {ρ : Env} {H : Heap}, Rel B ρ H w → Al2 (CS ρ) xs vs → FrzL n H xs ys H' → FrzTo B n ρ H w H' fun ρ' => Al2 (CS ρ') ys vs ∧ ys.all pers = true
  | [], [], [], ρ, H, hr, _, h => by simp only [FrzL] at h; subst h; exact ⟨ρ, hr, Step.refl _ _ _, ⟨trivial, rfl⟩, rfl, fun _ _ => rfl⟩
  | x :: xs, y :: ys, v :: vs, ρ, H, hr, hv, h => by
    simp only [FrzL] at h
    obtain ⟨H1, h1, h2⟩ := h
    obtain ⟨ρ1, a1, a2, ⟨a3, a4⟩, a5, a6⟩ := frz_ok hr hv.1 h1
    obtain ⟨ρ2, b1, b2, ⟨b3, b4⟩, b5, b6⟩ := frzL_ok a1 (hv.2.mono fun _ _ hh => hh.mono a2.le) h2
    exact ⟨ρ2, b1, a2.trans b2, ⟨⟨a3.mono b2.le, b3⟩, by simp [a4, b4]⟩, b5.trans a5, fun b hb => (b6 b hb).trans (a6 b hb)⟩
  | [], _ :: _, _, _, _, _, _, h => h.elim
  | _ :: _, [], _, _, _, _, _, h => h.elim
  | [], [], _ :: _, _, _, _, hv, _ => hv.elim
  | _ :: _, _ :: _, [], _, _, _, hv, _ => hv.elim
theorem frzC_ok (hr : Rel B ρ H w) {x y : Cmp} {v : Value} (hv : CC ρ x v) (h : FrzC n H x y H') : FrzTo B n ρ H w H' fun ρ' => CC ρ' y v ∧ persCmp y = true := by
  cases x with
  | s x => cases y with
    | s y => exact frz_ok hr hv h
    | agg _ => exact h.elim
  | agg xs => cases y with
    | s y => exact h.elim
    | agg ys =>
      obtain ⟨vs, h1, rfl⟩ := hv
      obtain ⟨ρ1, a1, a2, ⟨a3, a4⟩, a5, a6⟩ := frzL_ok hr h1 h
      exact ⟨ρ1, a1, a2, ⟨⟨vs, a3, rfl⟩, a4⟩, a5, a6⟩
theorem frzCs_ok : ∀ {xs ys : List Cmp} {vs : List Value} {ρ : Env} {H : Heap}, Rel B ρ H w → Al2 (CC ρ) xs vs → FrzCs n H xs ys H' → FrzTo B n ρ H w H' fun ρ' => Al2 (CC ρ') ys vs ∧ ys.all persCmp = true
  | [], [], [], ρ, H, hr, _, h => by simp only [FrzCs] at h; subst h; exact ⟨ρ, hr, Step.refl _ _ _, ⟨trivial, rfl⟩, rfl, fun _ _ => rfl⟩
  | x :: xs, y :: ys, v :: vs, ρ, H, hr, hv, h => by
    simp only [FrzCs] at h
    obtain ⟨H1, h1, h2⟩ := h
    obtain ⟨ρ1, a1, a2, ⟨a3, a4⟩, a5, a6⟩ := frzC_ok hr hv.1 h1
    obtain ⟨ρ2, b1, b2, ⟨b3, b4⟩, b5, b6⟩ := frzCs_ok a1 (hv.2.mono fun _ _ hh => hh.mono a2.le) h2
    exact ⟨ρ2, b1, a2.trans b2, ⟨⟨a3.mono b2.le, b3⟩, by simp [a4, b4]⟩, b5.trans a5, fun b hb => (b6 b hb).trans (a6 b hb)⟩
  | [], _ :: _, _, _, _, _, _, h => h.elim
  | _ :: _, [], _, _, _, _, _, h => h.elim
  | [], [], _ :: _, _, _, _, hv, _ => hv.elim
  | _ :: _, _ :: _, [], _, _, _, hv, _ => hv.elim
theorem frzA_ok (hr : Rel B ρ H w) {x y : AV} {v : Value} (hv : CA ρ x v) (h : FrzA n H x y H') : FrzTo B n ρ H w H' fun ρ' => CA ρ' y v ∧ persAV y = true := by
  cases x with
  | s x => cases y <;> first | exact frz_ok hr hv h | exact h.elim
  | agg xs => cases y with
    | agg ys =>
      obtain ⟨vs, h1, rfl⟩ := hv
      obtain ⟨ρ1, a1, a2, ⟨a3, a4⟩, a5, a6⟩ := frzL_ok hr h1 h
      exact ⟨ρ1, a1, a2, ⟨⟨vs, a3, rfl⟩, a4⟩, a5, a6⟩
    | _ => exact h.elim
  | tup xs => cases y with
    | tup ys =>
      obtain ⟨vs, h1, rfl⟩ := hv
      obtain ⟨ρ1, a1, a2, ⟨a3, a4⟩, a5, a6⟩ := frzCs_ok hr h1 h
      exact ⟨ρ1, a1, a2, ⟨⟨vs, a3, rfl⟩, a4⟩, a5, a6⟩
    | _ => exact h.elim
  | any => cases y <;> exact h.elim
end

theorem acalls_gc {P : Program} {f : FuncId} {args : List Cmp} {H : Heap} {r : AV} (h : ACallsR P f args H fun r1 H1 => HExt H H1 ∧ ∃ H2, FrzA H.n H1 r1 r H2) : ACalls P f args H r H := by
  refine ⟨h.1, fun B ρ w cargs hrel hargs => (h.2 B ρ w cargs hrel hargs).mono ?_⟩
  rintro e w' ⟨rv, ρ0, r1, H1, he, h1, h2, h3, hx, H2, hfz⟩
  obtain ⟨ρ', a1, a2, ⟨a3, a4⟩, a5, a6⟩ := frzA_ok h2 h1 hfz
  replace h3 := h3.trans a2
  replace hx : HExt H H2 := ⟨by rw [a5]; exact hx.1, fun b hb => (a6 b hb).trans (hx.2 b hb)⟩
  replace h2 := a1
  let ρ2 : Env := { loc := fun b => if b < H.n then ρ' b else Loc.absent, mem := ρ'.mem }
  have hag : ∀ b, ρ b ≠ .absent → ρ2 b = ρ' b := fun b hb => by
    have := hrel.lt hb
    simp [ρ2, this]
  have hold : ∀ b cb co cc, ρ2 b = .at_ cb co cc → b < H.n ∧ ρ' b = .at_ cb co cc ∧ ρ b = .at_ cb co cc := fun b cb co cc hb => by
    by_cases hlt : b < H.n
    · simp [ρ2, hlt] at hb
      refine ⟨hlt, hb, ?_⟩
      rcases h3.le b with h4 | h4 | h4
      · rw [h3.abs b hlt h4] at hb; cases hb
      · rw [← h4]; exact hb
      · rw [h4] at hb; cases hb
    · simp [ρ2, hlt] at hb
  have own2 : ∀ k, Own ρ2 H k → Own ρ' H2 k := by
    rintro k ⟨b, co, cc, x, g1, g2, g3⟩
    obtain ⟨hlt, g4, g5⟩ := hold _ _ _ _ g1
    exact ⟨b, co, cc, x, g4, by rw [hx.2 b hlt]; exact g2, g3⟩
  refine ⟨rv, ρ2, r, H, he, persAV_ok (ρ := ρ') (ρ' := ρ2) (fun _ _ _ h => h) a4 a3, ⟨⟨?_, ?_, ?_, ?_, ?_⟩, fun cb j v hv => ⟨(h2.imm cb j v hv).1, fun ho => (h2.imm cb j v hv).2 (own2 _ ho)⟩⟩, ⟨h3.os, h3.tape, h3.output, h3.size, h3.keep, ?_, ⟨?_, h3.le.mem⟩, ?_, Nat.le_refl _, ?_, h3.memn⟩, rfl, rfl⟩
  · exact h2.hB
  · intro b hb; simp [ρ2, Nat.not_lt.2 hb]
  · intro b x hb
    by_cases hlt : b < H.n
    · simp only [ρ2, hlt, if_true]; exact h2.live b x (by rw [hx.2 b hlt]; exact hb)
    · simp [ρ2, hlt]
  · intro b cb co cc x hb hm
    obtain ⟨hlt, h4, h5⟩ := hold b cb co cc hb
    obtain ⟨C, T, fz, k1, k2, k3, k4⟩ := h2.blk b cb co cc x h4 (by rw [hx.2 b hlt]; exact hm)
    obtain ⟨C0, T0, fz0, j1, j2, _⟩ := hrel.blk b cb co cc x h5 hm
    refine ⟨C, T, fz, k1, fun j sv hj => ?_, k3, k4⟩
    obtain ⟨v, k5, k6⟩ := k2 j sv hj
    obtain ⟨v0, _, j6⟩ := j2 j sv hj
    exact ⟨v, k5, CS_agr j6 hag (fun _ _ _ h => h) k6⟩
  · intro b b' cb co cc co' cc' x x' hne g1 g2 g3 g4
    obtain ⟨hl1, _, g1'⟩ := hold _ _ _ _ g1
    obtain ⟨hl2, _, g2'⟩ := hold _ _ _ _ g2
    exact hrel.sep b b' cb co cc co' cc' x x' hne g1' g2' g3 g4
  · rintro k ⟨b, co, cc, x, g1, g2, g3⟩
    obtain ⟨hlt, g4, g5⟩ := hold _ _ _ _ g1
    exact .inl ⟨b, co, cc, x, g5, g2, g3⟩
  · intro b
    by_cases hb : ρ b = .absent
    · exact .inl hb
    · rcases h3.le b with h4 | h4 | h4
      · exact absurd h4 hb
      · exact .inr (.inl ((hag b hb).trans h4))
      · exact .inr (.inr ((hag b hb).trans h4))
  · intro b cb co cc g1 g2
    obtain ⟨_, _, g3⟩ := hold _ _ _ _ g2
    rw [g3] at g1; cases g1
  · intro b hb ha
    simp [ρ2, hb, h3.abs b hb ha]

/-- A contract of a function that only computes: what it made is written no more. -/
theorem acalls_fz {P : Program} {te : Nat → Option TI} (hte : TEok P te) (hmx : P.follows .mixedOrders = true) {f : FuncId} {fn : Func} {c : Code} (hfn : P.funcs[f]? = some fn) (hb : fn.body = some c)
    (hent : ∀ args w, (callFunc f args).run P w = .ok (.enter f args) w) (hok : codeOk fn.ntmps c = true) (hrs : fn.results.toList.all (resOk fn.ntmps) = true)
    {args : List Cmp} (hlen : Nat.ble args.length fn.ntmps = true) {H : Heap} {r : AV} (h : VC P te c (argSlots args) H (PRet te fn.results fun r1 H1 => HExt H H1 ∧ ∃ H2, FrzA H.n H1 r1 r H2)) : ACalls P f args H r H :=
  acalls_gc (acalls_of hte hmx hfn hb hent hok hrs hlen h)

/-- a result that does not hang on the heap -/
theorem frz_self {n : Nat} {H : Heap} : ∀ {r r1 : AV}, r1 = r → persAV r = true → ∃ H2, FrzA n H r1 r H2 := by
  have keyL : ∀ {xs : List SV}, xs.all pers = true → FrzL n H xs xs H := by
    intro xs
    induction xs with
    | nil => intro _; simp [FrzL]
    | cons x xs ih => intro hp; simp only [List.all_cons, Bool.and_eq_true] at hp; exact ⟨H, .inl ⟨rfl, hp.1, rfl⟩, ih hp.2⟩
  intro r r1 he hp
  subst he
  cases r1 with
  | s x => exact ⟨H, .inl ⟨rfl, hp, rfl⟩⟩
  | agg xs => exact ⟨H, keyL hp⟩
  | tup cs =>
    refine ⟨H, ?_⟩
    show FrzCs n H cs cs H
    have hp : cs.all persCmp = true := hp
    induction cs with
    | nil => simp [FrzCs]
    | cons c cs ih =>
      simp only [List.all_cons, Bool.and_eq_true] at hp
      refine ⟨H, ?_, ih hp.2 hp.2⟩
      cases c with
      | s x => exact .inl ⟨rfl, hp.1, rfl⟩
      | agg xs => exact keyL hp.1
  | any => cases hp

/-- A contract of a function that only computes. -/
theorem acalls_pure {P : Program} {te : Nat → Option TI} (hte : TEok P te) (hmx : P.follows .mixedOrders = true) {f : FuncId} {fn : Func} {c : Code} (hfn : P.funcs[f]? = some fn) (hb : fn.body = some c)
    (hent : ∀ args w, (callFunc f args).run P w = .ok (.enter f args) w) (hok : codeOk fn.ntmps c = true) (hrs : fn.results.toList.all (resOk fn.ntmps) = true)
    {args : List Cmp} (hlen : Nat.ble args.length fn.ntmps = true) {H : Heap} {r : AV} (hr : persAV r = true) (h : VC P te c (argSlots args) H (PRet te fn.results fun r1 H1 => r1 = r ∧ HExt H H1)) : ACalls P f args H r H := by
  refine acalls_gc ?_
  have := acalls_of hte hmx hfn hb hent hok hrs hlen h
  refine ⟨this.1, fun B ρ w cargs h1 h2 => (this.2 B ρ w cargs h1 h2).mono ?_⟩
  rintro e w' ⟨rv, ρ', r1, H1, g1, g2, g3, g4, g5, g6⟩
  exact ⟨rv, ρ', r1, H1, g1, g2, g3, g4, g6, frz_self g5 hr⟩

/-- a call whose arguments are seen as ones that do not change any more -/
theorem acallsR_frz {P : Program} {f : FuncId} {cs cs' : List Cmp} {H H1 : Heap} {R : AV → Heap → Prop} (h : FrzCs 0 H cs cs' H1) (k : ACallsR P f cs' H1 R) : ACallsR P f cs H R := by
  refine ⟨k.1, fun B ρ w cargs hrel hargs => ?_⟩
  obtain ⟨ρ1, a1, a2, ⟨a3, _⟩, _, _⟩ := frzCs_ok hrel hargs h
  refine (k.2 B ρ1 w cargs a1 a3).mono ?_
  rintro e w' ⟨rv, ρ0, r1, H2, he, h1, h2, h3, hR⟩
  exact ⟨rv, ρ0, r1, H2, he, h1, h2, a2.trans h3, hR⟩
theorem callv_frz {P : Program} {f : FuncId} {cs cs' : List Cmp} {H H1 : Heap} {K : AV → Heap → Prop} (h : FrzCs 0 H cs cs' H1) (k : CallV P f cs' H1 K) : CallV P f cs H K := by
  obtain ⟨R, k1, k2⟩ := k
  exact ⟨R, acallsR_frz h k1, k2⟩
/-- nil, or not nil: a contract of a slice without elements -/
theorem acallsR_empty {P : Program} {f : FuncId} {cs : List Cmp} {H : Heap} {R : AV → Heap → Prop} (h1 : ACallsR P f (.s (.raw (.slice none 0 0)) :: cs) H R) (h2 : ACallsR P f (.s .ve :: cs) H R) : ACallsR P f (.s (.vs 0 []) :: cs) H R := by
  refine ⟨h1.1, fun B ρ w cargs hrel hargs => ?_⟩
  cases cargs with
  | nil => exact hargs.elim
  | cons v vs =>
    obtain ⟨hv, hvs⟩ := hargs
    simp only [CC, CS] at hv
    obtain ⟨a, c, cb, co, rfl, hn, _, hcn, _⟩ := hv
    cases a with
    | some a => exact h2.2 B ρ w _ hrel ⟨by simp only [CC, CS]; exact ⟨a, c, rfl⟩, hvs⟩
    | none =>
      have hc := hcn rfl
      subst hc; exact h1.2 B ρ w _ hrel ⟨by simp [CC, CS, scal], hvs⟩

/-! ### Small rules for the conditions -/
@[simp] theorem upd_some (σ : Slots) (d : Nat) (v : AV) (t : Nat) : Upd σ (some d) v t = if t = d then v else σ t := rfl
@[simp] theorem upd_none (σ : Slots) (v : AV) : Upd σ none v = σ := rfl
@[simp] theorem push_m (H : Heap) (x : Blk) (k : Nat) : (H.push x).m k = if k = H.n then some x else H.m k := rfl
@[simp] theorem set_m (H : Heap) (b : Nat) (x : Option Blk) (k : Nat) : (H.set b x).m k = if k = b then x else H.m k := rfl
/-! The conditions, in a form in which one thing is looked at at a time. -/
def bA (x : Option (AV × Heap)) (k : AV → Heap → Prop) : Prop :=
  match x with
  | some (r, H) => k r H
  | none => False
def bI (b : Bool) (x y : Prop) : Prop :=
  match b with
  | true => x
  | false => y
def bW (x : Option Bool) (t f : Prop) : Prop :=
  match x with
  | some b => bI b t f
  | none => False
def bC (x : Option (FuncId × List Cmp)) (k : FuncId → List Cmp → Prop) (n : Prop) : Prop :=
  match x with
  | some (f, cs) => k f cs
  | none => n
def bB (v : AV) (k : Bool → Prop) : Prop :=
  match v with
  | .s (.raw (.bool b)) => k b
  | _ => False
theorem bA_some (r : AV) (H : Heap) (k : AV → Heap → Prop) : bA (some (r, H)) k = k r H := rfl
theorem bW_some (b : Bool) (t f : Prop) : bW (some b) t f = bI b t f := rfl
theorem bC_some (f : FuncId) (cs : List Cmp) (k : FuncId → List Cmp → Prop) (n : Prop) : bC (some (f, cs)) k n = k f cs := rfl
theorem bC_none (k : FuncId → List Cmp → Prop) (n : Prop) : bC none k n = n := rfl
theorem bB_raw (b : Bool) (k : Bool → Prop) : bB (.s (.raw (.bool b))) k = k b := rfl
theorem bI_true (x y : Prop) : bI true x y = x := rfl
theorem bI_false (x y : Prop) : bI false x y = y := rfl
theorem bI_not (b : Bool) (x y : Prop) : bI (!b) x y = bI b y x := by cases b <;> rfl
theorem bI_split {b : Bool} {x y : Prop} (h : b = true → x) (h' : b = false → y) : bI b x y := by cases b; exact h' rfl; exact h rfl
@[congr] theorem bA_congr {x x' : Option (AV × Heap)} {k : AV → Heap → Prop} (h : x = x') : bA x k = bA x' k := by rw [h]
@[congr] theorem bI_congr {x x' : Bool} {t f : Prop} (h : x = x') : bI x t f = bI x' t f := by rw [h]
@[congr] theorem bW_congr {x x' : Option Bool} {t f : Prop} (h : x = x') : bW x t f = bW x' t f := by rw [h]
@[congr] theorem bC_congr {x x' : Option (FuncId × List Cmp)} {k : FuncId → List Cmp → Prop} {n : Prop} (h : x = x') : bC x k n = bC x' k n := by rw [h]
@[congr] theorem bB_congr {x x' : AV} {k : Bool → Prop} (h : x = x') : bB x k = bB x' k := by rw [h]
@[congr] theorem callv_congr {P : Program} {f : FuncId} {args args' : List Cmp} {H H' : Heap} {K : AV → Heap → Prop} (h : args = args') (h2 : H = H') : CallV P f args H K = CallV P f args' H' K := by rw [h, h2]
@[congr] theorem vops_congr {P : Program} {te : Nat → Option TI} {all : Array Oper} {l : List Oper} {σ : Slots} {H H' : Heap} {K : Slots → Heap → Prop} (h : H = H') : VOps P te all l σ H K = VOps P te all l σ H' K := by rw [h]
@[congr] theorem vd_congr {P : Program} {te : Nat → Option TI} {all : Array Oper} {l : List Oper} {σ : Slots} {H H' : Heap} {K : Slots → Heap → Prop} (h : H = H') : VD P te all l σ H K = VD P te all l σ H' K := by rw [h]
@[congr] theorem vc_congr {P : Program} {te : Nat → Option TI} {c : Code} {σ : Slots} {H H' : Heap} {Q : Post} (h : H = H') : VC P te c σ H Q = VC P te c σ H' Q := by rw [h]

section
variable {P : Program} {te : Nat → Option TI} {σ : Slots} {H : Heap} {Q : Post}
theorem vops_nil {all : Array Oper} {K : Slots → Heap → Prop} : VOps P te all [] σ H K = K σ H := rfl
theorem vops_cons {all : Array Oper} {o : Oper} {rest : List Oper} {K : Slots → Heap → Prop} : VOps P te all (o :: rest) σ H K =
    bW (wantedA all σ o) (bC (callOf σ o.op) (fun f args => CallV P f args H fun r H' => VOps P te all rest (Upd σ o.dst r) H' K) (bA (aop te σ H o.op) fun r H' => VOps P te all rest (Upd σ o.dst r) H' K)) (VOps P te all rest (Upd σ o.dst (.tup [])) H K) := by
  rw [VOps]
  cases wantedA all σ o with
  | none => rfl
  | some b => cases b with
    | false => rfl
    | true =>
      simp only [bW_some, bI_true]
      cases callOf σ o.op with
      | some x => rfl
      | none => cases aop te σ H o.op <;> rfl
/-- an equation of which the right side is to be found -/
def IsA {α : Type} (x y : α) : Prop := x = y
theorem IsA.rfl {α : Type} {x : α} : IsA x x := Eq.refl x
@[congr] theorem isA_congr {α : Type} {x x' y : α} (h : x = x') : IsA x y = IsA x' y := by rw [h]
/-- one operation that is carried out -/
def VX (P : Program) (te : Nat → Option TI) (all : Array Oper) (op : Op) (d : Option Tmp) (rest : List Oper) (σ : Slots) (H : Heap) (K : Slots → Heap → Prop) : Prop :=
  bC (callOf σ op) (fun f args => CallV P f args H fun r H' => VOps P te all rest (Upd σ d r) H' K) (bA (aop te σ H op) fun r H' => VOps P te all rest (Upd σ d r) H' K)
theorem vops_ng {all : Array Oper} {d : Option Tmp} {op : Op} {ty : TypeId} {pos : String} {af : Array Edge} {rest : List Oper} {K : Slots → Heap → Prop} (h : VX P te all op d rest σ H K) : VOps P te all (⟨d, op, ty, pos, af, none⟩ :: rest) σ H K := by
  rw [vops_cons]; exact h
theorem vops_g {all : Array Oper} {o : Oper} {rest : List Oper} {K : Slots → Heap → Prop} {b : Bool} (hw : IsA (wantedA all σ o) (some b)) (h : bI b (VX P te all o.op o.dst rest σ H K) (VOps P te all rest (Upd σ o.dst (.tup [])) H K)) : VOps P te all (o :: rest) σ H K := by
  unfold IsA at hw; rw [vops_cons, hw, bW_some]; exact h
theorem vops_gt {all : Array Oper} {d : Option Tmp} {op : Op} {ty : TypeId} {pos : String} {af : Array Edge} {g : Option (Nat × Bool)} {rest : List Oper} {K : Slots → Heap → Prop} (hw : wantedA all σ ⟨d, op, ty, pos, af, g⟩ = some true) (h : VX P te all op d rest σ H K) : VOps P te all (⟨d, op, ty, pos, af, g⟩ :: rest) σ H K := by
  rw [vops_cons, hw, bW_some]; exact h
theorem vops_gf {all : Array Oper} {d : Option Tmp} {op : Op} {ty : TypeId} {pos : String} {af : Array Edge} {g : Option (Nat × Bool)} {rest : List Oper} {K : Slots → Heap → Prop} (hw : wantedA all σ ⟨d, op, ty, pos, af, g⟩ = some false) (h : VOps P te all rest (Upd σ d (.tup [])) H K) : VOps P te all (⟨d, op, ty, pos, af, g⟩ :: rest) σ H K := by
  rw [vops_cons, hw, bW_some]; exact h
def isVCall : Op → Bool
  | .call { callee := .value _, .. } => true
  | _ => false
theorem callOf_none {op : Op} (h : isVCall op = false) : callOf σ op = none := by
  unfold callOf
  split
  · simp [isVCall] at h
  · rfl
theorem vx_op {all : Array Oper} {d : Option Tmp} {op : Op} {rest : List Oper} {K : Slots → Heap → Prop} {r : AV} {H' : Heap} (hc : isVCall op = false) (ha : IsA (aop te σ H op) (some (r, H'))) (h : VOps P te all rest (Upd σ d r) H' K) : VX P te all op d rest σ H K := by
  unfold IsA at ha; unfold VX; rw [callOf_none hc, ha]; exact h
theorem vx_call {all : Array Oper} {d : Option Tmp} {f : FuncId} {args : List Operand} {ts : Array TypeId} {rest : List Oper} {K : Slots → Heap → Prop} {cs : List Cmp} (hc : IsA (cmps (args.map (ev σ))) (some cs))
    (h : CallV P f cs H fun r H' => VOps P te all rest (Upd σ d r) H' K) : VX P te all (.call { callee := .value (.func f), args := args.toArray, argTypes := ts }) d rest σ H K := by
  unfold IsA at hc; unfold VX
  have : callOf σ (.call { callee := .value (.func f), args := args.toArray, argTypes := ts }) = some (f, cs) := by simp [callOf, ev, hc]
  rw [this]; exact h
theorem vc_cond' {c : Operand} {x y : Code} {b : Bool} (hc : IsA (ev σ c) (.s (.raw (.bool b)))) (h : bI b (VC P te x σ H Q) (VC P te y σ H Q)) : VC P te (.cond c x y) σ H Q := by
  unfold IsA at hc; rw [VC, hc]; cases b <;> simpa [bI] using h
theorem vops_nil' {all : Array Oper} {K : Slots → Heap → Prop} (h : K σ H) : VOps P te all [] σ H K := h
theorem pthen_ni {K : Slots → Heap → Prop} (h : K σ H) : PThen K Q .normal σ H := h
theorem pthen_ri {K : Slots → Heap → Prop} (h : Q .ret σ H) : PThen K Q .ret σ H := h
theorem pthen_ei {K : Slots → Heap → Prop} {id : Nat} (h : Q (.exit id) σ H) : PThen K Q (.exit id) σ H := h
theorem pblock_ni {id : Nat} (h : Q .normal σ H) : PBlock id Q .normal σ H := h
theorem pblock_ri {id : Nat} (h : Q .ret σ H) : PBlock id Q .ret σ H := h
theorem pblock_ei {id : Nat} (h : Q .normal σ H) : PBlock id Q (.exit id) σ H := by simpa [PBlock] using h
theorem pblock_en {id i : Nat} (hn : Nat.beq i id = false) (h : Q (.exit i) σ H) : PBlock id Q (.exit i) σ H := by
  have : ¬ i = id := Nat.ne_of_beq_eq_false hn
  simpa [PBlock, this] using h
theorem vc_skip_i (h : Q .normal σ H) : VC P te .skip σ H Q := h
theorem vc_ret_i (h : Q .ret σ H) : VC P te .ret σ H Q := h
theorem vc_exit_i {id : Nat} (h : Q (.exit id) σ H) : VC P te (.exit id) σ H Q := h
theorem vc_block_i {id : Nat} {c : Code} (h : VC P te c σ H (PBlock id Q)) : VC P te (.block id c) σ H Q := h
theorem pret_ri {rs : Array ResultVar} {K : AV → Heap → Prop} {r : AV} (hr : IsA (aresult te σ H rs) (some r)) (h : K r H) : PRet te rs K .ret σ H := ⟨r, hr, h⟩
theorem pret_ni {rs : Array ResultVar} {K : AV → Heap → Prop} {r : AV} (hr : IsA (aresult te σ H rs) (some r)) (h : K r H) : PRet te rs K .normal σ H := ⟨r, hr, h⟩
theorem bI_ti {x y : Prop} (h : x) : bI true x y := h
theorem bI_fi {x y : Prop} (h : y) : bI false x y := h
theorem bI_ni {b : Bool} {x y : Prop} (h : bI b y x) : bI (!b) x y := by rw [bI_not]; exact h
theorem vd_nil {all : Array Oper} {K : Slots → Heap → Prop} : VD P te all [] σ H K = K σ H := rfl
theorem vd_cons {all : Array Oper} {o : Oper} {rest : List Oper} {K : Slots → Heap → Prop} : VD P te all (o :: rest) σ H K =
    bW (wantedA all σ o) (bC (callOf σ o.op) (fun f args => ∃ r H', ACalls P f args H r H' ∧ HExtR H H' ∧ VD P te all rest (Upd σ o.dst r) H' K) (bA (aop te σ H o.op) fun r H' => (match opKind o.op with | 0 => H' = H | 1 => HExtR H H' | _ => True) ∧ VD P te all rest (Upd σ o.dst r) H' K)) (VD P te all rest (Upd σ o.dst (.tup [])) H K) := by
  rw [VD]
  cases wantedA all σ o with
  | none => rfl
  | some b => cases b with
    | false => rfl
    | true =>
      simp only [bW_some, bI_true]
      cases callOf σ o.op with
      | some x => rfl
      | none => cases aop te σ H o.op <;> rfl
theorem vc_skip : VC P te .skip σ H Q = Q .normal σ H := rfl
theorem vc_region {id : Nat} {l : List Oper} : VC P te (.region id l.toArray false) σ H Q = VOps P te l.toArray l σ H (Q .normal) := rfl
theorem vc_draw {id : Nat} {l : List Oper} : VC P te (.region id l.toArray true) σ H Q = (drawOk l.toArray = true ∧ VD P te l.toArray l σ H (Q .normal)) := rfl
/-- what comes behind, behind a name -/
theorem vc_seq' {x y : Code} (h : ∀ K : Slots → Heap → Prop, (∀ σ H σ1 H1, Weak σ H σ1 H1 → VC P te y σ1 H1 Q → K σ H) → VC P te x σ H (PThen K Q)) : VC P te (.seq x y) σ H Q := h _ fun _ _ _ _ hw h => ⟨_, _, hw, h⟩
theorem use_k {A K : Slots → Heap → Prop} (h : ∀ σ H, A σ H → K σ H) (h' : A σ H) : K σ H := h _ _ h'
theorem vc_region' {id : Nat} {l : List Oper} (h : ∀ K : Slots → Heap → Prop, (∀ σ H, Q .normal σ H → K σ H) → VOps P te l.toArray l σ H K) : VC P te (.region id l.toArray false) σ H Q := h _ fun _ _ h => h
theorem vc_cond {c : Operand} {x y : Code} : VC P te (.cond c x y) σ H Q = bB (ev σ c) fun b => bI b (VC P te x σ H Q) (VC P te y σ H Q) := by
  rw [VC]
  generalize ev σ c = v
  unfold bB
  split
  · rename_i b; cases b <;> simp [bI]
  · rename_i h
    split
    · exact absurd rfl (h _)
    · rfl
theorem vc_block {id : Nat} {c : Code} : VC P te (.block id c) σ H Q = VC P te c σ H (PBlock id Q) := rfl
theorem vc_exit {id : Nat} : VC P te (.exit id) σ H Q = Q (.exit id) σ H := rfl
theorem vc_ret : VC P te .ret σ H Q = Q .ret σ H := rfl
theorem pthen_n {K : Slots → Heap → Prop} : PThen K Q .normal σ H = K σ H := rfl
theorem pthen_n' {K : Slots → Heap → Prop} : PThen K Q .normal = K := rfl
theorem pthen_e {K : Slots → Heap → Prop} {id : Nat} : PThen K Q (.exit id) σ H = Q (.exit id) σ H := rfl
theorem pthen_r {K : Slots → Heap → Prop} : PThen K Q .ret σ H = Q .ret σ H := rfl
theorem pblock_n {id : Nat} : PBlock id Q .normal σ H = Q .normal σ H := rfl
theorem pblock_n' {id : Nat} : PBlock id Q .normal = Q .normal := rfl
theorem pblock_r {id : Nat} : PBlock id Q .ret σ H = Q .ret σ H := rfl
theorem pblock_e {id i : Nat} : PBlock id Q (.exit i) σ H = if i = id then Q .normal σ H else Q (.exit i) σ H := rfl
theorem pret_r {rs : List ResultVar} {K : AV → Heap → Prop} : PRet te rs.toArray K .ret σ H = ∃ r, aresult te σ H rs.toArray = some r ∧ K r H := rfl
theorem pret_n {rs : List ResultVar} {K : AV → Heap → Prop} : PRet te rs.toArray K .normal σ H = ∃ r, aresult te σ H rs.toArray = some r ∧ K r H := rfl
theorem callOf_fn {f : FuncId} {args : List Operand} {ts : Array TypeId} : callOf σ (.call { callee := .value (.func f), args := args.toArray, argTypes := ts }) = (cmps (args.map (ev σ))).map fun cs => (f, cs) := by
  simp [callOf, ev]
end
theorem wantedA_none {ops : Array Oper} {σ : Slots} {d : Option Tmp} {op : Op} {ty : TypeId} {pos : String} {af : Array Edge} : wantedA ops σ ⟨d, op, ty, pos, af, none⟩ = some true := rfl

theorem pers_raw (v : Value) : pers (.raw v) = true := rfl
theorem pers_vs (n : Nat) (l : List SV) : pers (.vs n l) = true := rfl
theorem pers_vp (l : List SV) : pers (.vp l) = true := rfl
theorem pers_ve : pers .ve = true := rfl
attribute [go_sem] pers_raw pers_vs pers_vp pers_ve aloadV
attribute [go_sem] wantedA aop abuiltin aslice oint aload astore setAll afill zrep ptrs abin aint ev scal AV.cmp AV.cells Cmp.av cmps argSlots TI.isAgg rawL upd_some upd_none push_m set_m Heap.push_n Heap.set_n aresult aresults eqL eqV shapeL sameK
attribute [go_sem] List.all_cons List.all_nil List.all_append List.toList_toArray List.map_cons List.map_nil Option.map_some Option.map_none Option.bind_some if_true if_false ite_self List.getElem?_toArray List.getElem?_cons_succ List.getElem?_cons_zero List.getElem?_nil List.length_cons List.length_nil List.drop_zero List.drop_succ_cons List.drop_nil List.take_succ_cons List.take_zero List.take_nil List.set_cons_zero List.set_cons_succ List.set_nil List.cons_append List.nil_append List.append_nil Nat.add_zero Nat.zero_add Nat.left_eq_add Nat.add_eq_left Nat.add_left_cancel_iff decide_true decide_false Bool.not_true Bool.not_false Bool.not_not Bool.false_eq_true Bool.true_eq_false ne_eq not_true_eq_false not_false_eq_true and_true true_and and_self and_false false_and Nat.succ_ne_self Nat.le_refl Nat.one_ne_zero beq_true beq_false List.size_toArray Int.toNat_zero eq_self Bool.and_true Bool.true_and Bool.false_and Bool.and_false Bool.true_or Bool.false_or Bool.or_true Bool.or_false Bool.true_eq_false

/-! ### Equality of structs, field by field -/
section
variable {P : Program} {d : Nat} {xs ys : Array Value} {f : Field} {fs : List Field} {u v : Value} {r s : Bool} {w : World}
theorem eqf_cons (hn : (f.name == "_") = false) (ha : (part f.type xs f.offset).run P w = .ok u w) (hb : (part f.type ys f.offset).run P w = .ok v w) (he : (Op.equalIn d f.type u v).run P w = .ok r w) (hr : (Op.eqFields d xs ys fs).run P w = .ok s w) : (Op.eqFields d xs ys (f :: fs)).run P w = .ok (r && s) w := by
  have hn' : f.name ≠ "_" := by simpa using hn
  rw [Op.eqFields]
  simp only [if_pos hn', Sem.run_bind, ha, hb, he, Result.andThen_ok]
  cases r
  · simp
  · simpa using hr
theorem eqf_nil : (Op.eqFields d xs ys []).run P w = .ok true w := by simp [Op.eqFields]
theorem eqA_of {t : TypeId} {fs : Array Field} (hu : P.underlying t = some (.struct fs)) (hp : P.stoodInHeld t = false) (h : (Op.eqFields d xs ys fs.toList).run P w = .ok r w) : (Op.equalIn (d + 1) t (.agg xs) (.agg ys)).run P w = .ok r w := by
  have hf : P.fieldsOf t = fs := by simp [Program.fieldsOf, hu]
  rw [run_equalIn_struct (P := P) w d t xs ys (by rw [hf]; exact hu) hp, hf]
  exact h
theorem run_part_int {t : TypeId} {k : IntKind} {off : Nat} (hu : P.underlying t = some (.int k)) (h : xs[off]? = some v) : (part t xs off).run P w = .ok v w := by
  simp [part, isAgg, Go.run_underlying hu, h]
theorem run_part_bool {t : TypeId} {off : Nat} (hu : P.underlying t = some .bool) (h : xs[off]? = some v) : (part t xs off).run P w = .ok v w := by
  simp [part, isAgg, Go.run_underlying hu, h]
theorem run_part_agg {t : TypeId} {off n : Nat} {fs : Array Field} (hu : P.underlying t = some (.struct fs)) (hs : P.cellsOf t = n) (hn : n ≠ 0) : (part t xs off).run P w = .ok (.agg (xs.extract off (off + n))) w := by
  unfold Program.cellsOf at hs
  cases hi : P.info? t with
  | none => simp [hi] at hs; exact absurd hs.symm hn
  | some i => simp [hi] at hs; simp [part, isAgg, Go.run_underlying hu, sizeOf, typeInfo, hi, hs]
end

theorem shape_int {k : IntKind} {n : Int} {zs xs : List Value} (h : shapeL (.int k n :: zs) xs = true) : ∃ (a : Int) (xs' : List Value), xs = .int k a :: xs' ∧ shapeL zs xs' = true := by
  cases xs with
  | nil => simp [shapeL] at h
  | cons x xs =>
    simp only [shapeL, Bool.and_eq_true] at h
    obtain ⟨h1, h2⟩ := h
    cases x <;> simp [sameK] at h1
    subst h1
    exact ⟨_, xs, rfl, h2⟩
theorem shape_bool {n : Bool} {zs xs : List Value} (h : shapeL (.bool n :: zs) xs = true) : ∃ (a : Bool) (xs' : List Value), xs = .bool a :: xs' ∧ shapeL zs xs' = true := by
  cases xs with
  | nil => simp [shapeL] at h
  | cons x xs =>
    simp only [shapeL, Bool.and_eq_true] at h
    obtain ⟨h1, h2⟩ := h
    cases x <;> simp [sameK] at h1
    exact ⟨_, xs, rfl, h2⟩
theorem shape_nil {xs : List Value} (h : shapeL [] xs = true) : xs = [] := by cases xs <;> simp [shapeL] at h <;> rfl

end Go.Abs
/-
  One step after another, with what comes behind hidden behind a name.
-/
namespace Go.Abs
set_option linter.unusedVariables false
set_option linter.unusedSimpArgs false
open Go.RowKit

def bO {α : Type} (x : Option α) (k : α → Prop) : Prop := match x with | some a => k a | none => False
theorem bO_some {α : Type} {a : α} {k : α → Prop} : bO (some a) k = k a := rfl
@[congr] theorem bO_congr {α : Type} {x x' : Option α} {k : α → Prop} (h : x = x') : bO x k = bO x' k := by rw [h]

section
variable {P : Program} {te : Nat → Option TI} {σ : Slots} {H : Heap} {Q : Post}
theorem vx_op' {all : Array Oper} {d : Option Tmp} {op : Op} {rest : List Oper} {K : Slots → Heap → Prop} (hc : isVCall op = false) (h : ∀ k : AV → Heap → Prop, (∀ r H', VOps P te all rest (Upd σ d r) H' K → k r H') → bA (aop te σ H op) k) : VX P te all op d rest σ H K := by
  unfold VX; rw [callOf_none hc]; exact h _ fun _ _ h => h
theorem vops_g' {all : Array Oper} {d : Option Tmp} {op : Op} {ty : TypeId} {pos : String} {af : Array Edge} {g : Nat × Bool} {rest : List Oper} {K : Slots → Heap → Prop} (h : ∀ x y : Prop, (VX P te all op d rest σ H K → x) → (VOps P te all rest (Upd σ d (.tup [])) H K → y) → bW (wantedA all σ ⟨d, op, ty, pos, af, some g⟩) x y) : VOps P te all (⟨d, op, ty, pos, af, some g⟩ :: rest) σ H K := by
  rw [vops_cons]; exact h _ _ (fun h => h) (fun h => h)
theorem vx_call' {all : Array Oper} {d : Option Tmp} {f : FuncId} {args : List Operand} {ts : Array TypeId} {rest : List Oper} {K : Slots → Heap → Prop}
    (h : ∀ k : List Cmp → Prop, (∀ cs, (CallV P f cs H fun r H' => VOps P te all rest (Upd σ d r) H' K) → k cs) → bO (cmps (args.map (ev σ))) k) : VX P te all (.call { callee := .value (.func f), args := args.toArray, argTypes := ts }) d rest σ H K := by
  unfold VX
  have h' := h _ fun _ h => h
  cases hc : cmps (args.map (ev σ)) with
  | none => rw [hc] at h'; exact h'.elim
  | some cs =>
    rw [hc] at h'
    have : callOf σ (.call { callee := .value (.func f), args := args.toArray, argTypes := ts }) = some (f, cs) := by simp [callOf, ev, hc]
    rw [this]; exact h'
/-- what comes behind a call, behind a name -/
theorem callv_k {f : FuncId} {args : List Cmp} {K : AV → Heap → Prop} (h : ∀ k : AV → Heap → Prop, (∀ r H', K r H' → k r H') → CallV P f args H k) : CallV P f args H K := h _ fun _ _ h => h
theorem vc_cond'' {c : Operand} {x y : Code} (h : ∀ a b : Prop, (VC P te x σ H Q → a) → (VC P te y σ H Q → b) → bB (ev σ c) fun t => bI t a b) : VC P te (.cond c x y) σ H Q := by
  rw [vc_cond]; exact h _ _ (fun h => h) (fun h => h)
theorem pret_r' {rs : Array ResultVar} {K : AV → Heap → Prop} (h : ∀ k : AV → Prop, (∀ r, K r H → k r) → bO (aresult te σ H rs) k) : PRet te rs K .ret σ H := by
  have h' := h _ fun _ h => h
  cases hr : aresult te σ H rs with
  | none => rw [hr] at h'; exact h'.elim
  | some r => rw [hr] at h'; exact ⟨r, hr, h'⟩
theorem pret_n' {rs : Array ResultVar} {K : AV → Heap → Prop} (h : ∀ k : AV → Prop, (∀ r, K r H → k r) → bO (aresult te σ H rs) k) : PRet te rs K .normal σ H := by
  have h' := h _ fun _ h => h
  cases hr : aresult te σ H rs with
  | none => rw [hr] at h'; exact h'.elim
  | some r => rw [hr] at h'; exact ⟨r, hr, h'⟩

/-! #### The same in a region that draws its order -/
theorem HExtR.push {H : Heap} {x : Blk} (h : x.cells.all pers = true) : HExtR H (H.push x) := by
  refine ⟨by simp, fun b hb => Heap.push_ne _ _ (by omega), fun b y h1 h2 h3 sv hm => ?_⟩
  have : b = H.n := by simp at h2; omega
  subst this
  rw [Heap.push_same] at h3; injection h3 with h3; subst h3
  exact List.all_eq_true.1 h sv hm
def VDX (P : Program) (te : Nat → Option TI) (all : Array Oper) (op : Op) (d : Option Tmp) (rest : List Oper) (σ : Slots) (H : Heap) (K : Slots → Heap → Prop) : Prop :=
  bC (callOf σ op) (fun f args => ∃ r H', ACalls P f args H r H' ∧ HExtR H H' ∧ VD P te all rest (Upd σ d r) H' K) (bA (aop te σ H op) fun r H' => (match opKind op with | 0 => H' = H | 1 => HExtR H H' | _ => True) ∧ VD P te all rest (Upd σ d r) H' K)
theorem vd_ng {all : Array Oper} {d : Option Tmp} {op : Op} {ty : TypeId} {pos : String} {af : Array Edge} {rest : List Oper} {K : Slots → Heap → Prop} (h : VDX P te all op d rest σ H K) : VD P te all (⟨d, op, ty, pos, af, none⟩ :: rest) σ H K := by
  rw [vd_cons]; exact h
theorem vd_g' {all : Array Oper} {d : Option Tmp} {op : Op} {ty : TypeId} {pos : String} {af : Array Edge} {g : Nat × Bool} {rest : List Oper} {K : Slots → Heap → Prop} (h : ∀ x y : Prop, (VDX P te all op d rest σ H K → x) → (VD P te all rest (Upd σ d (.tup [])) H K → y) → bW (wantedA all σ ⟨d, op, ty, pos, af, some g⟩) x y) : VD P te all (⟨d, op, ty, pos, af, some g⟩ :: rest) σ H K := by
  rw [vd_cons]; exact h _ _ (fun h => h) (fun h => h)
theorem vd_gt {all : Array Oper} {d : Option Tmp} {op : Op} {ty : TypeId} {pos : String} {af : Array Edge} {g : Option (Nat × Bool)} {rest : List Oper} {K : Slots → Heap → Prop} (hw : wantedA all σ ⟨d, op, ty, pos, af, g⟩ = some true) (h : VDX P te all op d rest σ H K) : VD P te all (⟨d, op, ty, pos, af, g⟩ :: rest) σ H K := by
  rw [vd_cons, hw]; exact h
theorem vd_gf {all : Array Oper} {d : Option Tmp} {op : Op} {ty : TypeId} {pos : String} {af : Array Edge} {g : Option (Nat × Bool)} {rest : List Oper} {K : Slots → Heap → Prop} (hw : wantedA all σ ⟨d, op, ty, pos, af, g⟩ = some false) (h : VD P te all rest (Upd σ d (.tup [])) H K) : VD P te all (⟨d, op, ty, pos, af, g⟩ :: rest) σ H K := by
  rw [vd_cons, hw]; exact h
theorem vdx_0 {all : Array Oper} {d : Option Tmp} {op : Op} {rest : List Oper} {K : Slots → Heap → Prop} (hk : Nat.beq (opKind op) 0 = true) (h : ∀ k : AV → Heap → Prop, (∀ r, VD P te all rest (Upd σ d r) H K → k r H) → bA (aop te σ H op) k) : VDX P te all op d rest σ H K := by
  have hk : opKind op = 0 := Nat.eq_of_beq_eq_true hk
  unfold VDX
  cases hc : callOf σ op with
  | some x => have := callOf_kind hc; omega
  | none => simp only [hk]; exact h (fun r H' => H' = H ∧ VD P te all rest (Upd σ d r) H' K) fun r hr => ⟨rfl, hr⟩
theorem vdx_1 {all : Array Oper} {d : Option Tmp} {op : Op} {rest : List Oper} {K : Slots → Heap → Prop} (hc : isVCall op = false) (hk : Nat.beq (opKind op) 1 = true) (h : ∀ k : AV → Heap → Prop, (∀ r H', HExtR H H' → VD P te all rest (Upd σ d r) H' K → k r H') → bA (aop te σ H op) k) : VDX P te all op d rest σ H K := by
  have hk : opKind op = 1 := Nat.eq_of_beq_eq_true hk
  unfold VDX
  rw [callOf_none hc]; simp only [hk]; exact h _ fun r H' h1 h2 => ⟨h1, h2⟩
theorem vdx_2 {all : Array Oper} {d : Option Tmp} {op : Op} {rest : List Oper} {K : Slots → Heap → Prop} (hk : Nat.beq (opKind op) 2 = true) (h : ∀ k : AV → Heap → Prop, (∀ r H', VD P te all rest (Upd σ d r) H' K → k r H') → bA (aop te σ H op) k) : VDX P te all op d rest σ H K := by
  have hk : opKind op = 2 := Nat.eq_of_beq_eq_true hk
  unfold VDX
  cases hc : callOf σ op with
  | some x => have := callOf_kind hc; omega
  | none => simp only [hk]; exact h _ fun r H' h1 => ⟨trivial, h1⟩
def VCallD (P : Program) (te : Nat → Option TI) (all : Array Oper) (f : FuncId) (cs : List Cmp) (d : Option Tmp) (rest : List Oper) (σ : Slots) (H : Heap) (K : Slots → Heap → Prop) : Prop := ∃ r H', ACalls P f cs H r H' ∧ HExtR H H' ∧ VD P te all rest (Upd σ d r) H' K
theorem vcalld_pure {all : Array Oper} {f : FuncId} {cs : List Cmp} {d : Option Tmp} {rest : List Oper} {K : Slots → Heap → Prop} {r : AV} (h : ACalls P f cs H r H) (k : VD P te all rest (Upd σ d r) H K) : VCallD P te all f cs d rest σ H K := ⟨r, H, h, HExtR.refl _, k⟩
theorem vdx_call {all : Array Oper} {d : Option Tmp} {f : FuncId} {args : List Operand} {ts : Array TypeId} {rest : List Oper} {K : Slots → Heap → Prop}
    (h : ∀ k : List Cmp → Prop, (∀ cs, VCallD P te all f cs d rest σ H K → k cs) → bO (cmps (args.map (ev σ))) k) : VDX P te all (.call { callee := .value (.func f), args := args.toArray, argTypes := ts }) d rest σ H K := by
  unfold VDX
  have h' := h _ fun _ h => h
  cases hc : cmps (args.map (ev σ)) with
  | none => rw [hc] at h'; exact h'.elim
  | some cs =>
    rw [hc] at h'
    have : callOf σ (.call { callee := .value (.func f), args := args.toArray, argTypes := ts }) = some (f, cs) := by simp [callOf, ev, hc]
    rw [this]; exact h'
theorem vd_nil' {all : Array Oper} {K : Slots → Heap → Prop} (h : K σ H) : VD P te all [] σ H K := h
theorem vc_draw' {id : Nat} {l : List Oper} (hd : drawOk l.toArray = true) (h : ∀ K : Slots → Heap → Prop, (∀ σ H, Q .normal σ H → K σ H) → VD P te l.toArray l σ H K) : VC P te (.region id l.toArray true) σ H Q := by
  rw [vc_draw]; exact ⟨hd, h _ fun _ _ h => h⟩
theorem vc_loop' {c : Code} (h : ∃ (I : Nat → Slots → Heap → Prop) (k : Nat), I k σ H ∧ ∀ k σ H, I k σ H → VC P te c σ H (PThen (fun σ' H' => ∃ k', k' < k ∧ I k' σ' H') Q)) : VC P te (.loop c) σ H Q := h
end
attribute [go_sem] Nat.add_assoc bO_some bA_some bW_some bB_raw bI_true bI_false bI_not

/-! ### Which rule fits, by instances: the texts of the walks stay short -/
class St (G : Prop) (G' : outParam Prop) : Prop where imp : G' → G
class Ss (G : Prop) (G' : outParam Prop) : Prop where imp : G' → G
class Sk (G : Prop) (G' : outParam Prop) : Prop where imp : G' → G
class Sg (G : Prop) (G' : outParam Prop) : Prop where imp : G' → G
class Sc (G : Prop) (G' : outParam Prop) : Prop where imp : G' → G
theorem st {G G' : Prop} [h : St G G'] (x : G') : G := h.imp x
theorem ss {G G' : Prop} [h : Ss G G'] (x : G') : G := h.imp x
theorem sk {G G' : Prop} [h : Sk G G'] (x : G') : G := h.imp x
theorem sg {G G' : Prop} [h : Sg G G'] (x : G') : G := h.imp x
theorem sc {G G' : Prop} [h : Sc G G'] (x : G') : G := h.imp x
section
variable {P : Program} {te : Nat → Option TI} {σ : Slots} {H : Heap} {Q : Post} {all : Array Oper} {d : Option Tmp} {op : Op} {ty : TypeId} {pos : String} {af : Array Edge} {rest : List Oper} {K : Slots → Heap → Prop} {id : Nat} {rs : Array ResultVar} {KR : AV → Heap → Prop}
instance : St (VOps P te all (⟨d, op, ty, pos, af, none⟩ :: rest) σ H K) (VX P te all op d rest σ H K) := ⟨vops_ng⟩
instance : St (VOps P te all [] σ H K) (K σ H) := ⟨vops_nil'⟩
instance : St (VD P te all (⟨d, op, ty, pos, af, none⟩ :: rest) σ H K) (VDX P te all op d rest σ H K) := ⟨vd_ng⟩
instance : St (VD P te all [] σ H K) (K σ H) := ⟨vd_nil'⟩
instance : St (PThen K Q .normal σ H) (K σ H) := ⟨pthen_ni⟩
instance : St (PThen K Q .ret σ H) (Q .ret σ H) := ⟨pthen_ri⟩
instance : St (PThen K Q (.exit id) σ H) (Q (.exit id) σ H) := ⟨pthen_ei⟩
instance : St (PBlock id Q .normal σ H) (Q .normal σ H) := ⟨pblock_ni⟩
instance : St (PBlock id Q .ret σ H) (Q .ret σ H) := ⟨pblock_ri⟩
instance : St (PBlock id Q (.exit id) σ H) (Q .normal σ H) := ⟨pblock_ei⟩
instance : St (VC P te .skip σ H Q) (Q .normal σ H) := ⟨vc_skip_i⟩
instance : St (VC P te .ret σ H Q) (Q .ret σ H) := ⟨vc_ret_i⟩
instance : St (VC P te (.exit id) σ H Q) (Q (.exit id) σ H) := ⟨vc_exit_i⟩
instance {c : Code} : St (VC P te (.block id c) σ H Q) (VC P te c σ H (PBlock id Q)) := ⟨vc_block_i⟩
instance {x y : Code} : Ss (VC P te (.seq x y) σ H Q) (∀ K : Slots → Heap → Prop, (∀ σ H σ1 H1, Weak σ H σ1 H1 → VC P te y σ1 H1 Q → K σ H) → VC P te x σ H (PThen K Q)) := ⟨vc_seq'⟩
instance {l : List Oper} : Ss (VC P te (.region id l.toArray false) σ H Q) (∀ K : Slots → Heap → Prop, (∀ σ H, Q .normal σ H → K σ H) → VOps P te l.toArray l σ H K) := ⟨vc_region'⟩
instance {f : FuncId} {args : List Operand} {ts : Array TypeId} : Sk (VX P te all (.call { callee := .value (.func f), args := args.toArray, argTypes := ts }) d rest σ H K) (∀ k : List Cmp → Prop, (∀ cs, (CallV P f cs H fun r H' => VOps P te all rest (Upd σ d r) H' K) → k cs) → bO (cmps (args.map (ev σ))) k) := ⟨vx_call'⟩
instance : Sk (PRet te rs KR .ret σ H) (∀ k : AV → Prop, (∀ r, KR r H → k r) → bO (aresult te σ H rs) k) := ⟨pret_r'⟩
instance : Sk (PRet te rs KR .normal σ H) (∀ k : AV → Prop, (∀ r, KR r H → k r) → bO (aresult te σ H rs) k) := ⟨pret_n'⟩
abbrev VXK (P : Program) (te : Nat → Option TI) (all : Array Oper) (op : Op) (d : Option Tmp) (rest : List Oper) (σ : Slots) (H : Heap) (K : Slots → Heap → Prop) : Prop := ∀ k : AV → Heap → Prop, (∀ r H', VOps P te all rest (Upd σ d r) H' K → k r H') → bA (aop te σ H op) k
abbrev VD0 (P : Program) (te : Nat → Option TI) (all : Array Oper) (op : Op) (d : Option Tmp) (rest : List Oper) (σ : Slots) (H : Heap) (K : Slots → Heap → Prop) : Prop := ∀ k : AV → Heap → Prop, (∀ r, VD P te all rest (Upd σ d r) H K → k r H) → bA (aop te σ H op) k
abbrev VD1 (P : Program) (te : Nat → Option TI) (all : Array Oper) (op : Op) (d : Option Tmp) (rest : List Oper) (σ : Slots) (H : Heap) (K : Slots → Heap → Prop) : Prop := ∀ k : AV → Heap → Prop, (∀ r H', HExtR H H' → VD P te all rest (Upd σ d r) H' K → k r H') → bA (aop te σ H op) k
abbrev VD2 (P : Program) (te : Nat → Option TI) (all : Array Oper) (op : Op) (d : Option Tmp) (rest : List Oper) (σ : Slots) (H : Heap) (K : Slots → Heap → Prop) : Prop := ∀ k : AV → Heap → Prop, (∀ r H', VD P te all rest (Upd σ d r) H' K → k r H') → bA (aop te σ H op) k
instance {x} : Sk (VX P te all (.move x) d rest σ H K) (VXK P te all (.move x) d rest σ H K) := ⟨vx_op' rfl⟩
instance {x} : Sk (VX P te all (.assign x) d rest σ H K) (VXK P te all (.assign x) d rest σ H K) := ⟨vx_op' rfl⟩
instance {x} {y} {z} : Sk (VX P te all (.pick x y z) d rest σ H K) (VXK P te all (.pick x y z) d rest σ H K) := ⟨vx_op' rfl⟩
instance {x} {y} {z} : Sk (VX P te all (.unOp x y z) d rest σ H K) (VXK P te all (.unOp x y z) d rest σ H K) := ⟨vx_op' rfl⟩
instance {a} {x} {y} {z} {w} : Sk (VX P te all (.binOp a x y z w) d rest σ H K) (VXK P te all (.binOp a x y z w) d rest σ H K) := ⟨vx_op' rfl⟩
instance {x} {y} : Sk (VX P te all (.build x y) d rest σ H K) (VXK P te all (.build x y) d rest σ H K) := ⟨vx_op' rfl⟩
instance {x} {y} {z} : Sk (VX P te all (.fieldAddr x y z) d rest σ H K) (VXK P te all (.fieldAddr x y z) d rest σ H K) := ⟨vx_op' rfl⟩
instance {x} {y} {z} : Sk (VX P te all (.indexAddr x y z) d rest σ H K) (VXK P te all (.indexAddr x y z) d rest σ H K) := ⟨vx_op' rfl⟩
instance {x} : Sk (VX P te all (.nilCheck x) d rest σ H K) (VXK P te all (.nilCheck x) d rest σ H K) := ⟨vx_op' rfl⟩
instance {x} {y} {z} : Sk (VX P te all (.convert x y z) d rest σ H K) (VXK P te all (.convert x y z) d rest σ H K) := ⟨vx_op' rfl⟩
instance {x} {y} {z} : Sk (VX P te all (.makeFunc x y z) d rest σ H K) (VXK P te all (.makeFunc x y z) d rest σ H K) := ⟨vx_op' rfl⟩
instance {x} {y} : Sk (VX P te all (.extract x y) d rest σ H K) (VXK P te all (.extract x y) d rest σ H K) := ⟨vx_op' rfl⟩
instance {x} {y} : Sk (VX P te all (.load x y) d rest σ H K) (VXK P te all (.load x y) d rest σ H K) := ⟨vx_op' rfl⟩
instance {x} : Sk (VX P te all (.alloc x) d rest σ H K) (VXK P te all (.alloc x) d rest σ H K) := ⟨vx_op' rfl⟩
instance {x} {y} : Sk (VX P te all (.box x y) d rest σ H K) (VXK P te all (.box x y) d rest σ H K) := ⟨vx_op' rfl⟩
instance {x} {y} {z} : Sk (VX P te all (.buildSlice x y z) d rest σ H K) (VXK P te all (.buildSlice x y z) d rest σ H K) := ⟨vx_op' rfl⟩
instance {x} {y} {z} : Sk (VX P te all (.store x y z) d rest σ H K) (VXK P te all (.store x y z) d rest σ H K) := ⟨vx_op' rfl⟩
instance {x} {y} {z} {w} {v} : Sk (VX P te all (.slice x y z w v) d rest σ H K) (VXK P te all (.slice x y z w v) d rest σ H K) := ⟨vx_op' rfl⟩
instance {b : Builtin} {args : Array Operand} {ts : Array TypeId} : Sk (VX P te all (.call { callee := .builtin b, args := args, argTypes := ts }) d rest σ H K) (VXK P te all (.call { callee := .builtin b, args := args, argTypes := ts }) d rest σ H K) := ⟨vx_op' rfl⟩
instance {x} : Sk (VDX P te all (.move x) d rest σ H K) (VD0 P te all (.move x) d rest σ H K) := ⟨vdx_0 rfl⟩
instance {x} : Sk (VDX P te all (.assign x) d rest σ H K) (VD0 P te all (.assign x) d rest σ H K) := ⟨vdx_0 rfl⟩
instance {x} {y} {z} : Sk (VDX P te all (.pick x y z) d rest σ H K) (VD0 P te all (.pick x y z) d rest σ H K) := ⟨vdx_0 rfl⟩
instance {x} {y} {z} : Sk (VDX P te all (.unOp x y z) d rest σ H K) (VD0 P te all (.unOp x y z) d rest σ H K) := ⟨vdx_0 rfl⟩
instance {a} {x} {y} {z} {w} : Sk (VDX P te all (.binOp a x y z w) d rest σ H K) (VD0 P te all (.binOp a x y z w) d rest σ H K) := ⟨vdx_0 rfl⟩
instance {x} {y} : Sk (VDX P te all (.build x y) d rest σ H K) (VD0 P te all (.build x y) d rest σ H K) := ⟨vdx_0 rfl⟩
instance {x} {y} {z} : Sk (VDX P te all (.fieldAddr x y z) d rest σ H K) (VD0 P te all (.fieldAddr x y z) d rest σ H K) := ⟨vdx_0 rfl⟩
instance {x} {y} {z} : Sk (VDX P te all (.indexAddr x y z) d rest σ H K) (VD0 P te all (.indexAddr x y z) d rest σ H K) := ⟨vdx_0 rfl⟩
instance {x} : Sk (VDX P te all (.nilCheck x) d rest σ H K) (VD0 P te all (.nilCheck x) d rest σ H K) := ⟨vdx_0 rfl⟩
instance {x} {y} {z} : Sk (VDX P te all (.convert x y z) d rest σ H K) (VD0 P te all (.convert x y z) d rest σ H K) := ⟨vdx_0 rfl⟩
instance {x} {y} {z} : Sk (VDX P te all (.makeFunc x y z) d rest σ H K) (VD0 P te all (.makeFunc x y z) d rest σ H K) := ⟨vdx_0 rfl⟩
instance {x} {y} : Sk (VDX P te all (.extract x y) d rest σ H K) (VD0 P te all (.extract x y) d rest σ H K) := ⟨vdx_0 rfl⟩
instance {x} {y} : Sk (VDX P te all (.load x y) d rest σ H K) (VD1 P te all (.load x y) d rest σ H K) := ⟨vdx_1 rfl rfl⟩
instance {x} : Sk (VDX P te all (.alloc x) d rest σ H K) (VD1 P te all (.alloc x) d rest σ H K) := ⟨vdx_1 rfl rfl⟩
instance {x} {y} : Sk (VDX P te all (.box x y) d rest σ H K) (VD1 P te all (.box x y) d rest σ H K) := ⟨vdx_1 rfl rfl⟩
instance {x} {y} {z} : Sk (VDX P te all (.buildSlice x y z) d rest σ H K) (VD1 P te all (.buildSlice x y z) d rest σ H K) := ⟨vdx_1 rfl rfl⟩
instance {x} {y} {z} : Sk (VDX P te all (.store x y z) d rest σ H K) (VD2 P te all (.store x y z) d rest σ H K) := ⟨vdx_2 rfl⟩
instance {args : Array Operand} {ts : Array TypeId} : Sk (VDX P te all (.call { callee := .builtin .len, args := args, argTypes := ts }) d rest σ H K) (VD0 P te all (.call { callee := .builtin .len, args := args, argTypes := ts }) d rest σ H K) := ⟨vdx_0 rfl⟩
instance {args : Array Operand} {ts : Array TypeId} : Sk (VDX P te all (.call { callee := .builtin .cap, args := args, argTypes := ts }) d rest σ H K) (VD0 P te all (.call { callee := .builtin .cap, args := args, argTypes := ts }) d rest σ H K) := ⟨vdx_0 rfl⟩
instance {args : Array Operand} {ts : Array TypeId} : Sk (VDX P te all (.call { callee := .builtin .max, args := args, argTypes := ts }) d rest σ H K) (VD0 P te all (.call { callee := .builtin .max, args := args, argTypes := ts }) d rest σ H K) := ⟨vdx_0 rfl⟩
instance {args : Array Operand} {ts : Array TypeId} : Sk (VDX P te all (.call { callee := .builtin .min, args := args, argTypes := ts }) d rest σ H K) (VD0 P te all (.call { callee := .builtin .min, args := args, argTypes := ts }) d rest σ H K) := ⟨vdx_0 rfl⟩
instance {f : FuncId} {args : List Operand} {ts : Array TypeId} : Sk (VDX P te all (.call { callee := .value (.func f), args := args.toArray, argTypes := ts }) d rest σ H K) (∀ k : List Cmp → Prop, (∀ cs, VCallD P te all f cs d rest σ H K → k cs) → bO (cmps (args.map (ev σ))) k) := ⟨vdx_call⟩
instance {g : Nat × Bool} : Sg (VOps P te all (⟨d, op, ty, pos, af, some g⟩ :: rest) σ H K) (∀ x y : Prop, (VX P te all op d rest σ H K → x) → (VOps P te all rest (Upd σ d (.tup [])) H K → y) → bW (wantedA all σ ⟨d, op, ty, pos, af, some g⟩) x y) := ⟨vops_g'⟩
instance {g : Nat × Bool} : Sg (VD P te all (⟨d, op, ty, pos, af, some g⟩ :: rest) σ H K) (∀ x y : Prop, (VDX P te all op d rest σ H K → x) → (VD P te all rest (Upd σ d (.tup [])) H K → y) → bW (wantedA all σ ⟨d, op, ty, pos, af, some g⟩) x y) := ⟨vd_g'⟩
instance {c : Operand} {x y : Code} : Sc (VC P te (.cond c x y) σ H Q) (∀ a b : Prop, (VC P te x σ H Q → a) → (VC P te y σ H Q → b) → bB (ev σ c) fun t => bI t a b) := ⟨vc_cond''⟩
end
theorem hxt {H H' : Heap} (h : HExt H H' := by repeat' (first | exact HExt.refl _ | assumption | refine HExt.push ?_ _ | (refine HExt.set ?_ (by (try simp only [Heap.push_n, Heap.set_n]); omega) _))) : HExt H H' := h
theorem hxo {H H' : Heap} (h : HExt H H' := by repeat' (first | exact HExt.refl _ | refine HExt.push ?_ _ | (refine HExt.set ?_ (by (try simp only [Heap.push_n, Heap.set_n]); omega) _))) : HExt H H' := h
end Go.Abs
/-
  The structs of the program, as plain ones, and their cells. (Printed by structs.py.)
-/
namespace Go.Abs
set_option linter.unusedVariables false
set_option linter.unusedSimpArgs false
open Go.RowKit

abbrev I (n : Int) : SV := .raw (.int .i64 n)
abbrev Bo (b : Bool) : SV := .raw (.bool b)
abbrev wr (n : Int) : Int := IntKind.i64.wrap n

structure At where
  p : Int
  sh : Bool
  b : Int
  o : Int
  deriving DecidableEq
def At.c (a : At) : List SV := [I a.p, Bo a.sh, I a.b, I a.o]
def At.zero : At := ⟨0, false, 0, 0⟩
theorem at_len (a : At) : a.c.length = 4 := rfl
theorem at_take (a : At) : List.take 4 a.c = a.c := rfl
theorem at_all (a b : At) : setAll a.c 0 b.c = b.c := rfl
theorem at_pers (a : At) : a.c.all pers = true := rfl
theorem at_fold (p : Int) (sh : Bool) (b : Int) (o : Int) : [SV.raw (.int .i64 p), SV.raw (.bool sh), SV.raw (.int .i64 b), SV.raw (.int .i64 o)] = At.c ⟨p, sh, b, o⟩ := rfl
theorem at_atake (a : At) (r : List SV) : List.take 4 (a.c ++ r) = a.c := rfl
theorem at_get0 (a : At) : a.c[0]? = some (I a.p) := rfl
theorem at_set0 (a : At) (x : Int) : a.c.set 0 (I x) = At.c { a with p := x } := rfl
theorem at_aget0 (a : At) (r : List SV) : (a.c ++ r)[0]? = some (I a.p) := rfl
theorem at_aset0 (a : At) (r : List SV) (x : Int) : (a.c ++ r).set 0 (I x) = At.c { a with p := x } ++ r := rfl
theorem at_get1 (a : At) : a.c[1]? = some (Bo a.sh) := rfl
theorem at_set1 (a : At) (x : Bool) : a.c.set 1 (Bo x) = At.c { a with sh := x } := rfl
theorem at_aget1 (a : At) (r : List SV) : (a.c ++ r)[1]? = some (Bo a.sh) := rfl
theorem at_aset1 (a : At) (r : List SV) (x : Bool) : (a.c ++ r).set 1 (Bo x) = At.c { a with sh := x } ++ r := rfl
theorem at_get2 (a : At) : a.c[2]? = some (I a.b) := rfl
theorem at_set2 (a : At) (x : Int) : a.c.set 2 (I x) = At.c { a with b := x } := rfl
theorem at_aget2 (a : At) (r : List SV) : (a.c ++ r)[2]? = some (I a.b) := rfl
theorem at_aset2 (a : At) (r : List SV) (x : Int) : (a.c ++ r).set 2 (I x) = At.c { a with b := x } ++ r := rfl
theorem at_get3 (a : At) : a.c[3]? = some (I a.o) := rfl
theorem at_set3 (a : At) (x : Int) : a.c.set 3 (I x) = At.c { a with o := x } := rfl
theorem at_aget3 (a : At) (r : List SV) : (a.c ++ r)[3]? = some (I a.o) := rfl
theorem at_aset3 (a : At) (r : List SV) (x : Int) : (a.c ++ r).set 3 (I x) = At.c { a with o := x } ++ r := rfl
def At.v (a : At) : List Value := [.int .i64 a.p, .bool a.sh, .int .i64 a.b, .int .i64 a.o]
theorem at_rawL (a : At) : rawL a.c = some a.v := rfl
theorem at_shape (a : At) : shapeL [.int .i64 0, .bool false, .int .i64 0, .int .i64 0] a.v = true := rfl
theorem at_eqL (a b : At) : eqL a.v b.v = decide (a = b) := by
  cases a; cases b; simp only [At.v, eqL, eqV, Bool.and_true, At.mk.injEq]; rw [Bool.eq_iff_iff]; simp
attribute [go_sem] at_len at_take at_all at_pers at_fold at_atake at_get0 at_set0 at_aget0 at_aset0 at_get1 at_set1 at_aget1 at_aset1 at_get2 at_set2 at_aget2 at_aset2 at_get3 at_set3 at_aget3 at_aset3 at_rawL at_shape at_eqL

structure Ar where
  s : Int
  e : Int
  p : Int
  sh : Bool
  b : Int
  o : Int
  deriving DecidableEq
def Ar.c (a : Ar) : List SV := [I a.s, I a.e, I a.p, Bo a.sh, I a.b, I a.o]
def Ar.zero : Ar := ⟨0, 0, 0, false, 0, 0⟩
theorem ar_len (a : Ar) : a.c.length = 6 := rfl
theorem ar_take (a : Ar) : List.take 6 a.c = a.c := rfl
theorem ar_all (a b : Ar) : setAll a.c 0 b.c = b.c := rfl
theorem ar_pers (a : Ar) : a.c.all pers = true := rfl
theorem ar_fold (s : Int) (e : Int) (p : Int) (sh : Bool) (b : Int) (o : Int) : [SV.raw (.int .i64 s), SV.raw (.int .i64 e), SV.raw (.int .i64 p), SV.raw (.bool sh), SV.raw (.int .i64 b), SV.raw (.int .i64 o)] = Ar.c ⟨s, e, p, sh, b, o⟩ := rfl
theorem ar_atake (a : Ar) (r : List SV) : List.take 6 (a.c ++ r) = a.c := rfl
theorem ar_get0 (a : Ar) : a.c[0]? = some (I a.s) := rfl
theorem ar_set0 (a : Ar) (x : Int) : a.c.set 0 (I x) = Ar.c { a with s := x } := rfl
theorem ar_aget0 (a : Ar) (r : List SV) : (a.c ++ r)[0]? = some (I a.s) := rfl
theorem ar_aset0 (a : Ar) (r : List SV) (x : Int) : (a.c ++ r).set 0 (I x) = Ar.c { a with s := x } ++ r := rfl
theorem ar_get1 (a : Ar) : a.c[1]? = some (I a.e) := rfl
theorem ar_set1 (a : Ar) (x : Int) : a.c.set 1 (I x) = Ar.c { a with e := x } := rfl
theorem ar_aget1 (a : Ar) (r : List SV) : (a.c ++ r)[1]? = some (I a.e) := rfl
theorem ar_aset1 (a : Ar) (r : List SV) (x : Int) : (a.c ++ r).set 1 (I x) = Ar.c { a with e := x } ++ r := rfl
theorem ar_get2 (a : Ar) : a.c[2]? = some (I a.p) := rfl
theorem ar_set2 (a : Ar) (x : Int) : a.c.set 2 (I x) = Ar.c { a with p := x } := rfl
theorem ar_aget2 (a : Ar) (r : List SV) : (a.c ++ r)[2]? = some (I a.p) := rfl
theorem ar_aset2 (a : Ar) (r : List SV) (x : Int) : (a.c ++ r).set 2 (I x) = Ar.c { a with p := x } ++ r := rfl
theorem ar_get3 (a : Ar) : a.c[3]? = some (Bo a.sh) := rfl
theorem ar_set3 (a : Ar) (x : Bool) : a.c.set 3 (Bo x) = Ar.c { a with sh := x } := rfl
theorem ar_aget3 (a : Ar) (r : List SV) : (a.c ++ r)[3]? = some (Bo a.sh) := rfl
theorem ar_aset3 (a : Ar) (r : List SV) (x : Bool) : (a.c ++ r).set 3 (Bo x) = Ar.c { a with sh := x } ++ r := rfl
theorem ar_get4 (a : Ar) : a.c[4]? = some (I a.b) := rfl
theorem ar_set4 (a : Ar) (x : Int) : a.c.set 4 (I x) = Ar.c { a with b := x } := rfl
theorem ar_aget4 (a : Ar) (r : List SV) : (a.c ++ r)[4]? = some (I a.b) := rfl
theorem ar_aset4 (a : Ar) (r : List SV) (x : Int) : (a.c ++ r).set 4 (I x) = Ar.c { a with b := x } ++ r := rfl
theorem ar_get5 (a : Ar) : a.c[5]? = some (I a.o) := rfl
theorem ar_set5 (a : Ar) (x : Int) : a.c.set 5 (I x) = Ar.c { a with o := x } := rfl
theorem ar_aget5 (a : Ar) (r : List SV) : (a.c ++ r)[5]? = some (I a.o) := rfl
theorem ar_aset5 (a : Ar) (r : List SV) (x : Int) : (a.c ++ r).set 5 (I x) = Ar.c { a with o := x } ++ r := rfl
def Ar.v (a : Ar) : List Value := [.int .i64 a.s, .int .i64 a.e, .int .i64 a.p, .bool a.sh, .int .i64 a.b, .int .i64 a.o]
theorem ar_rawL (a : Ar) : rawL a.c = some a.v := rfl
theorem ar_shape (a : Ar) : shapeL [.int .i64 0, .int .i64 0, .int .i64 0, .bool false, .int .i64 0, .int .i64 0] a.v = true := rfl
theorem ar_eqL (a b : Ar) : eqL a.v b.v = decide (a = b) := by
  cases a; cases b; simp only [Ar.v, eqL, eqV, Bool.and_true, Ar.mk.injEq]; rw [Bool.eq_iff_iff]; simp
attribute [go_sem] ar_len ar_take ar_all ar_pers ar_fold ar_atake ar_get0 ar_set0 ar_aget0 ar_aset0 ar_get1 ar_set1 ar_aget1 ar_aset1 ar_get2 ar_set2 ar_aget2 ar_aset2 ar_get3 ar_set3 ar_aget3 ar_aset3 ar_get4 ar_set4 ar_aget4 ar_aset4 ar_get5 ar_set5 ar_aget5 ar_aset5 ar_rawL ar_shape ar_eqL

structure Ca where
  k : Int
  a : Int
  l : Int
  n : Int
  t : Int
  p : Int
  f : Int
  b : Int
  o : Int
  deriving DecidableEq
def Ca.c (a : Ca) : List SV := [I a.k, I a.a, I a.l, I a.n, I a.t, I a.p, I a.f, I a.b, I a.o]
def Ca.zero : Ca := ⟨0, 0, 0, 0, 0, 0, 0, 0, 0⟩
theorem ca_len (a : Ca) : a.c.length = 9 := rfl
theorem ca_take (a : Ca) : List.take 9 a.c = a.c := rfl
theorem ca_all (a b : Ca) : setAll a.c 0 b.c = b.c := rfl
theorem ca_pers (a : Ca) : a.c.all pers = true := rfl
theorem ca_fold (k : Int) (a : Int) (l : Int) (n : Int) (t : Int) (p : Int) (f : Int) (b : Int) (o : Int) : [SV.raw (.int .i64 k), SV.raw (.int .i64 a), SV.raw (.int .i64 l), SV.raw (.int .i64 n), SV.raw (.int .i64 t), SV.raw (.int .i64 p), SV.raw (.int .i64 f), SV.raw (.int .i64 b), SV.raw (.int .i64 o)] = Ca.c ⟨k, a, l, n, t, p, f, b, o⟩ := rfl
theorem ca_atake (a : Ca) (r : List SV) : List.take 9 (a.c ++ r) = a.c := rfl
theorem ca_get0 (a : Ca) : a.c[0]? = some (I a.k) := rfl
theorem ca_set0 (a : Ca) (x : Int) : a.c.set 0 (I x) = Ca.c { a with k := x } := rfl
theorem ca_aget0 (a : Ca) (r : List SV) : (a.c ++ r)[0]? = some (I a.k) := rfl
theorem ca_aset0 (a : Ca) (r : List SV) (x : Int) : (a.c ++ r).set 0 (I x) = Ca.c { a with k := x } ++ r := rfl
theorem ca_get1 (a : Ca) : a.c[1]? = some (I a.a) := rfl
theorem ca_set1 (a : Ca) (x : Int) : a.c.set 1 (I x) = Ca.c { a with a := x } := rfl
theorem ca_aget1 (a : Ca) (r : List SV) : (a.c ++ r)[1]? = some (I a.a) := rfl
theorem ca_aset1 (a : Ca) (r : List SV) (x : Int) : (a.c ++ r).set 1 (I x) = Ca.c { a with a := x } ++ r := rfl
theorem ca_get2 (a : Ca) : a.c[2]? = some (I a.l) := rfl
theorem ca_set2 (a : Ca) (x : Int) : a.c.set 2 (I x) = Ca.c { a with l := x } := rfl
theorem ca_aget2 (a : Ca) (r : List SV) : (a.c ++ r)[2]? = some (I a.l) := rfl
theorem ca_aset2 (a : Ca) (r : List SV) (x : Int) : (a.c ++ r).set 2 (I x) = Ca.c { a with l := x } ++ r := rfl
theorem ca_get3 (a : Ca) : a.c[3]? = some (I a.n) := rfl
theorem ca_set3 (a : Ca) (x : Int) : a.c.set 3 (I x) = Ca.c { a with n := x } := rfl
theorem ca_aget3 (a : Ca) (r : List SV) : (a.c ++ r)[3]? = some (I a.n) := rfl
theorem ca_aset3 (a : Ca) (r : List SV) (x : Int) : (a.c ++ r).set 3 (I x) = Ca.c { a with n := x } ++ r := rfl
theorem ca_get4 (a : Ca) : a.c[4]? = some (I a.t) := rfl
theorem ca_set4 (a : Ca) (x : Int) : a.c.set 4 (I x) = Ca.c { a with t := x } := rfl
theorem ca_aget4 (a : Ca) (r : List SV) : (a.c ++ r)[4]? = some (I a.t) := rfl
theorem ca_aset4 (a : Ca) (r : List SV) (x : Int) : (a.c ++ r).set 4 (I x) = Ca.c { a with t := x } ++ r := rfl
theorem ca_get5 (a : Ca) : a.c[5]? = some (I a.p) := rfl
theorem ca_set5 (a : Ca) (x : Int) : a.c.set 5 (I x) = Ca.c { a with p := x } := rfl
theorem ca_aget5 (a : Ca) (r : List SV) : (a.c ++ r)[5]? = some (I a.p) := rfl
theorem ca_aset5 (a : Ca) (r : List SV) (x : Int) : (a.c ++ r).set 5 (I x) = Ca.c { a with p := x } ++ r := rfl
theorem ca_get6 (a : Ca) : a.c[6]? = some (I a.f) := rfl
theorem ca_set6 (a : Ca) (x : Int) : a.c.set 6 (I x) = Ca.c { a with f := x } := rfl
theorem ca_aget6 (a : Ca) (r : List SV) : (a.c ++ r)[6]? = some (I a.f) := rfl
theorem ca_aset6 (a : Ca) (r : List SV) (x : Int) : (a.c ++ r).set 6 (I x) = Ca.c { a with f := x } ++ r := rfl
theorem ca_get7 (a : Ca) : a.c[7]? = some (I a.b) := rfl
theorem ca_set7 (a : Ca) (x : Int) : a.c.set 7 (I x) = Ca.c { a with b := x } := rfl
theorem ca_aget7 (a : Ca) (r : List SV) : (a.c ++ r)[7]? = some (I a.b) := rfl
theorem ca_aset7 (a : Ca) (r : List SV) (x : Int) : (a.c ++ r).set 7 (I x) = Ca.c { a with b := x } ++ r := rfl
theorem ca_get8 (a : Ca) : a.c[8]? = some (I a.o) := rfl
theorem ca_set8 (a : Ca) (x : Int) : a.c.set 8 (I x) = Ca.c { a with o := x } := rfl
theorem ca_aget8 (a : Ca) (r : List SV) : (a.c ++ r)[8]? = some (I a.o) := rfl
theorem ca_aset8 (a : Ca) (r : List SV) (x : Int) : (a.c ++ r).set 8 (I x) = Ca.c { a with o := x } ++ r := rfl
def Ca.v (a : Ca) : List Value := [.int .i64 a.k, .int .i64 a.a, .int .i64 a.l, .int .i64 a.n, .int .i64 a.t, .int .i64 a.p, .int .i64 a.f, .int .i64 a.b, .int .i64 a.o]
theorem ca_rawL (a : Ca) : rawL a.c = some a.v := rfl
theorem ca_shape (a : Ca) : shapeL [.int .i64 0, .int .i64 0, .int .i64 0, .int .i64 0, .int .i64 0, .int .i64 0, .int .i64 0, .int .i64 0, .int .i64 0] a.v = true := rfl
theorem ca_eqL (a b : Ca) : eqL a.v b.v = decide (a = b) := by
  cases a; cases b; simp only [Ca.v, eqL, eqV, Bool.and_true, Ca.mk.injEq]; rw [Bool.eq_iff_iff]; simp
attribute [go_sem] ca_len ca_take ca_all ca_pers ca_fold ca_atake ca_get0 ca_set0 ca_aget0 ca_aset0 ca_get1 ca_set1 ca_aget1 ca_aset1 ca_get2 ca_set2 ca_aget2 ca_aset2 ca_get3 ca_set3 ca_aget3 ca_aset3 ca_get4 ca_set4 ca_aget4 ca_aset4 ca_get5 ca_set5 ca_aget5 ca_aset5 ca_get6 ca_set6 ca_aget6 ca_aset6 ca_get7 ca_set7 ca_aget7 ca_aset7 ca_get8 ca_set8 ca_aget8 ca_aset8 ca_rawL ca_shape ca_eqL

structure Ga where
  s : Int
  e : Int
  deriving DecidableEq
def Ga.c (a : Ga) : List SV := [I a.s, I a.e]
def Ga.zero : Ga := ⟨0, 0⟩
theorem ga_len (a : Ga) : a.c.length = 2 := rfl
theorem ga_take (a : Ga) : List.take 2 a.c = a.c := rfl
theorem ga_all (a b : Ga) : setAll a.c 0 b.c = b.c := rfl
theorem ga_pers (a : Ga) : a.c.all pers = true := rfl
theorem ga_atake (a : Ga) (r : List SV) : List.take 2 (a.c ++ r) = a.c := rfl
theorem ga_get0 (a : Ga) : a.c[0]? = some (I a.s) := rfl
theorem ga_set0 (a : Ga) (x : Int) : a.c.set 0 (I x) = Ga.c { a with s := x } := rfl
theorem ga_aget0 (a : Ga) (r : List SV) : (a.c ++ r)[0]? = some (I a.s) := rfl
theorem ga_aset0 (a : Ga) (r : List SV) (x : Int) : (a.c ++ r).set 0 (I x) = Ga.c { a with s := x } ++ r := rfl
theorem ga_get1 (a : Ga) : a.c[1]? = some (I a.e) := rfl
theorem ga_set1 (a : Ga) (x : Int) : a.c.set 1 (I x) = Ga.c { a with e := x } := rfl
theorem ga_aget1 (a : Ga) (r : List SV) : (a.c ++ r)[1]? = some (I a.e) := rfl
theorem ga_aset1 (a : Ga) (r : List SV) (x : Int) : (a.c ++ r).set 1 (I x) = Ga.c { a with e := x } ++ r := rfl
def Ga.v (a : Ga) : List Value := [.int .i64 a.s, .int .i64 a.e]
theorem ga_rawL (a : Ga) : rawL a.c = some a.v := rfl
theorem ga_shape (a : Ga) : shapeL [.int .i64 0, .int .i64 0] a.v = true := rfl
theorem ga_eqL (a b : Ga) : eqL a.v b.v = decide (a = b) := by
  cases a; cases b; simp only [Ga.v, eqL, eqV, Bool.and_true, Ga.mk.injEq]; rw [Bool.eq_iff_iff]; simp
attribute [go_sem] ga_len ga_take ga_all ga_pers ga_atake ga_get0 ga_set0 ga_aget0 ga_aset0 ga_get1 ga_set1 ga_aget1 ga_aset1 ga_rawL ga_shape ga_eqL

structure Pg where
  i : Bool
  p : Int
  sh : Bool
  b : Int
  o : Int
  deriving DecidableEq
def Pg.c (a : Pg) : List SV := [Bo a.i, I a.p, Bo a.sh, I a.b, I a.o]
def Pg.zero : Pg := ⟨false, 0, false, 0, 0⟩
theorem pg_len (a : Pg) : a.c.length = 5 := rfl
theorem pg_take (a : Pg) : List.take 5 a.c = a.c := rfl
theorem pg_all (a b : Pg) : setAll a.c 0 b.c = b.c := rfl
theorem pg_pers (a : Pg) : a.c.all pers = true := rfl
theorem pg_fold (i : Bool) (p : Int) (sh : Bool) (b : Int) (o : Int) : [SV.raw (.bool i), SV.raw (.int .i64 p), SV.raw (.bool sh), SV.raw (.int .i64 b), SV.raw (.int .i64 o)] = Pg.c ⟨i, p, sh, b, o⟩ := rfl
theorem pg_atake (a : Pg) (r : List SV) : List.take 5 (a.c ++ r) = a.c := rfl
theorem pg_get0 (a : Pg) : a.c[0]? = some (Bo a.i) := rfl
theorem pg_set0 (a : Pg) (x : Bool) : a.c.set 0 (Bo x) = Pg.c { a with i := x } := rfl
theorem pg_aget0 (a : Pg) (r : List SV) : (a.c ++ r)[0]? = some (Bo a.i) := rfl
theorem pg_aset0 (a : Pg) (r : List SV) (x : Bool) : (a.c ++ r).set 0 (Bo x) = Pg.c { a with i := x } ++ r := rfl
theorem pg_get1 (a : Pg) : a.c[1]? = some (I a.p) := rfl
theorem pg_set1 (a : Pg) (x : Int) : a.c.set 1 (I x) = Pg.c { a with p := x } := rfl
theorem pg_aget1 (a : Pg) (r : List SV) : (a.c ++ r)[1]? = some (I a.p) := rfl
theorem pg_aset1 (a : Pg) (r : List SV) (x : Int) : (a.c ++ r).set 1 (I x) = Pg.c { a with p := x } ++ r := rfl
theorem pg_get2 (a : Pg) : a.c[2]? = some (Bo a.sh) := rfl
theorem pg_set2 (a : Pg) (x : Bool) : a.c.set 2 (Bo x) = Pg.c { a with sh := x } := rfl
theorem pg_aget2 (a : Pg) (r : List SV) : (a.c ++ r)[2]? = some (Bo a.sh) := rfl
theorem pg_aset2 (a : Pg) (r : List SV) (x : Bool) : (a.c ++ r).set 2 (Bo x) = Pg.c { a with sh := x } ++ r := rfl
theorem pg_get3 (a : Pg) : a.c[3]? = some (I a.b) := rfl
theorem pg_set3 (a : Pg) (x : Int) : a.c.set 3 (I x) = Pg.c { a with b := x } := rfl
theorem pg_aget3 (a : Pg) (r : List SV) : (a.c ++ r)[3]? = some (I a.b) := rfl
theorem pg_aset3 (a : Pg) (r : List SV) (x : Int) : (a.c ++ r).set 3 (I x) = Pg.c { a with b := x } ++ r := rfl
theorem pg_get4 (a : Pg) : a.c[4]? = some (I a.o) := rfl
theorem pg_set4 (a : Pg) (x : Int) : a.c.set 4 (I x) = Pg.c { a with o := x } := rfl
theorem pg_aget4 (a : Pg) (r : List SV) : (a.c ++ r)[4]? = some (I a.o) := rfl
theorem pg_aset4 (a : Pg) (r : List SV) (x : Int) : (a.c ++ r).set 4 (I x) = Pg.c { a with o := x } ++ r := rfl
def Pg.v (a : Pg) : List Value := [.bool a.i, .int .i64 a.p, .bool a.sh, .int .i64 a.b, .int .i64 a.o]
theorem pg_rawL (a : Pg) : rawL a.c = some a.v := rfl
theorem pg_shape (a : Pg) : shapeL [.bool false, .int .i64 0, .bool false, .int .i64 0, .int .i64 0] a.v = true := rfl
theorem pg_eqL (a b : Pg) : eqL a.v b.v = decide (a = b) := by
  cases a; cases b; simp only [Pg.v, eqL, eqV, Bool.and_true, Pg.mk.injEq]; rw [Bool.eq_iff_iff]; simp
attribute [go_sem] pg_len pg_take pg_all pg_pers pg_fold pg_atake pg_get0 pg_set0 pg_aget0 pg_aset0 pg_get1 pg_set1 pg_aget1 pg_aset1 pg_get2 pg_set2 pg_aget2 pg_aset2 pg_get3 pg_set3 pg_aget3 pg_aset3 pg_get4 pg_set4 pg_aget4 pg_aset4 pg_rawL pg_shape pg_eqL

theorem c_at_of_ar (a : Ar) : List.take 4 (List.drop 2 a.c) = At.c ⟨a.p, a.sh, a.b, a.o⟩ := rfl
theorem c_at_of_pg (a : Pg) : List.take 4 (List.drop 1 a.c) = At.c ⟨a.p, a.sh, a.b, a.o⟩ := rfl
theorem ar_of_at (s e : Int) (t : At) : SV.raw (.int .i64 s) :: SV.raw (.int .i64 e) :: t.c = Ar.c ⟨s, e, t.p, t.sh, t.b, t.o⟩ := rfl
theorem pg_of_at (i : Bool) (t : At) : SV.raw (.bool i) :: t.c = Pg.c ⟨i, t.p, t.sh, t.b, t.o⟩ := rfl
attribute [go_sem] c_at_of_ar c_at_of_pg ar_of_at pg_of_at Nat.le_add_right List.length_append List.getElem?_drop

end Go.Abs
/-
  Lists: those that do not change any more, and those that grow; loops over a range of numbers.
-/
namespace Go.Abs
set_option linter.unusedVariables false
set_option linter.unusedSimpArgs false
open Go.RowKit

/-! ### Lists that do not change any more -/
section
variable {α : Type} {f : α → List SV} {sz : Nat}
def FL (f : α → List SV) (l : List α) : List SV := l.flatMap f
abbrev LV (f : α → List SV) (l : List α) : SV := .vs l.length (FL f l)
theorem FL_nil : FL f [] = [] := rfl
theorem FL_cons (a : α) (l : List α) : FL f (a :: l) = f a ++ FL f l := rfl
theorem FL_one (a : α) : FL f [a] = f a := by simp [FL]
theorem FL_app (l m : List α) : FL f (l ++ m) = FL f l ++ FL f m := by simp [FL]
theorem FL_len (hf : ∀ a, (f a).length = sz) : ∀ (l : List α), (FL f l).length = l.length * sz
  | [] => by simp [FL]
  | a :: l => by rw [FL_cons, List.length_append, hf, FL_len hf l, List.length_cons, Nat.add_mul]; omega
theorem FL_all (hp : ∀ a, (f a).all pers = true) : ∀ (l : List α), (FL f l).all pers = true
  | [] => rfl
  | a :: l => by rw [FL_cons, List.all_append, hp, FL_all hp l]; rfl
theorem FL_pers (hp : ∀ a, (f a).all pers = true) (l : List α) : ∀ sv ∈ FL f l, pers sv = true := List.all_eq_true.1 (FL_all hp l)
theorem FL_drop (hf : ∀ a, (f a).length = sz) : ∀ (l : List α) (i : Nat), (FL f l).drop (i * sz) = FL f (l.drop i)
  | l, 0 => by simp
  | [], i + 1 => by simp [FL]
  | a :: l, i + 1 => by
    rw [FL_cons, show (i + 1) * sz = (f a).length + i * sz by rw [hf, Nat.add_mul]; omega, ← List.drop_drop, List.drop_left, FL_drop hf l i]
    rfl
theorem FL_take (hf : ∀ a, (f a).length = sz) : ∀ (l : List α) (i : Nat), (FL f l).take (i * sz) = FL f (l.take i)
  | l, 0 => by simp [FL]
  | [], i + 1 => by simp [FL]
  | a :: l, i + 1 => by
    rw [FL_cons, show (i + 1) * sz = (f a).length + i * sz by rw [hf, Nat.add_mul]; omega, List.take_length_add_append, FL_take hf l i]
    rfl
theorem FL_at (hf : ∀ a, (f a).length = sz) {l : List α} {i : Nat} {a : α} (ha : l[i]? = some a) : (FL f l).drop (i * sz) = f a ++ FL f (l.drop (i + 1)) := by
  have hi : i < l.length := (List.getElem?_eq_some_iff.1 ha).1
  rw [FL_drop hf, List.drop_eq_getElem_cons hi, FL_cons]
  rw [List.getElem?_eq_getElem hi] at ha; injection ha with ha; rw [ha]
theorem setAll_mid : ∀ (vs ws us rs : List SV), ws.length = vs.length → setAll (us ++ ws ++ rs) us.length vs = us ++ vs ++ rs
  | [], ws, us, rs, h => by cases ws with
    | nil => rfl
    | cons => simp at h
  | v :: vs, w :: ws, us, rs, h => by
    simp only [setAll]
    have e : (us ++ w :: ws ++ rs).set us.length v = (us ++ [v]) ++ ws ++ rs := by simp
    rw [e, show us.length + 1 = (us ++ [v]).length by simp, setAll_mid vs ws (us ++ [v]) rs (by simpa using h)]
    simp
  | _ :: _, [], _, _, h => by simp at h
theorem split_at {l : List α} {i : Nat} {a : α} (ha : l[i]? = some a) : l = l.take i ++ a :: l.drop (i + 1) ∧ (l.take i).length = i := by
  have hi : i < l.length := (List.getElem?_eq_some_iff.1 ha).1
  refine ⟨?_, by simp; omega⟩
  rw [List.getElem?_eq_getElem hi] at ha; injection ha with ha
  rw [← ha, ← List.drop_eq_getElem_cons hi, List.take_append_drop]
theorem set_at {l : List α} {i : Nat} {a : α} (ha : l[i]? = some a) (b : α) : l.set i b = l.take i ++ b :: l.drop (i + 1) := by
  have hi : i < l.length := (List.getElem?_eq_some_iff.1 ha).1
  rw [List.set_eq_take_append_cons_drop, if_pos hi]
/-- an element is stored -/
theorem FL_setAll (hf : ∀ a, (f a).length = sz) {l : List α} {i : Nat} {a : α} (ha : l[i]? = some a) (b : α) : setAll (FL f l) (i * sz) (f b) = FL f (l.set i b) := by
  obtain ⟨h1, h2⟩ := split_at ha
  have hl : (FL f (l.take i)).length = i * sz := by rw [FL_len hf, h2]
  have h3 : FL f l = FL f (l.take i) ++ f a ++ FL f (l.drop (i + 1)) := by
    conv => lhs; rw [h1]
    rw [FL_app, FL_cons, List.append_assoc]
  rw [set_at ha, FL_app, FL_cons, h3, ← hl, setAll_mid _ _ _ _ (by rw [hf, hf]), List.append_assoc]
/-- a cell of an element is stored -/
theorem FL_set (hf : ∀ a, (f a).length = sz) {l : List α} {i : Nat} {a : α} (ha : l[i]? = some a) {j : Nat} (hj : j < sz) {b : α} {x : SV} (hb : (f a).set j x = f b) : (FL f l).set (i * sz + j) x = FL f (l.set i b) := by
  obtain ⟨h1, h2⟩ := split_at ha
  have hl : (FL f (l.take i)).length = i * sz := by rw [FL_len hf, h2]
  have h3 : FL f l = FL f (l.take i) ++ (f a ++ FL f (l.drop (i + 1))) := by
    conv => lhs; rw [h1]
    rw [FL_app, FL_cons]
  rw [set_at ha, FL_app, FL_cons, h3, List.set_append, if_neg (by omega), List.set_append, if_pos (by rw [hf]; omega), ← hb]
  congr 3
  omega
end

/-! ### Lists that grow -/
/-- a list that was made since: it can grow -/
def IsGc (n : Nat) (H : Heap) (sz : Nat) (y : SV) (len : Nat) (cells : List SV) : Prop :=
  (y = .raw (.slice none 0 0) ∧ len = 0 ∧ cells = []) ∨ ∃ b, y = .sl b 0 len true ∧ n ≤ b ∧ b < H.n ∧ H.m b = some { cells := cells, esz := sz, wr := true }
abbrev IsG {α : Type} (f : α → List SV) (sz n : Nat) (H : Heap) (y : SV) (l : List α) : Prop := IsGc n H sz y l.length (FL f l)
/-- they have no block in common -/
def Sep (y z : SV) : Prop := ∀ b m k, y = .sl b 0 m true → z = .sl b 0 k true → False
theorem Sep.symm {y z : SV} (h : Sep y z) : Sep z y := fun b m k h1 h2 => h b k m h2 h1
theorem Sep.nil {z : SV} : Sep (.raw (.slice none 0 0)) z := fun _ _ _ h _ => by cases h

theorem HExt.lt {a b : Heap} (h : HExt a b) {k : Nat} (hk : k < a.n) : b.m k = a.m k := h.2 k hk
section
variable {n sz len : Nat} {H H' : Heap} {y z : SV} {cells : List SV}
theorem IsGc.nil : IsGc n H sz (.raw (.slice none 0 0)) 0 [] := .inl ⟨rfl, rfl, rfl⟩
theorem IsG.nil {α : Type} {f : α → List SV} : IsG f sz n H (.raw (.slice none 0 0)) [] := .inl ⟨rfl, rfl, rfl⟩
theorem IsGc.mk {b m : Nat} (h1 : n ≤ b) (h2 : b < H.n) (h3 : H.m b = some { cells := cells, esz := sz, wr := true }) (h4 : m = len) : IsGc n H sz (.sl b 0 m true) len cells := .inr ⟨b, by rw [h4], h1, h2, h3⟩
theorem IsGc.keep (h : IsGc n H sz y len cells) (hn : H.n ≤ H'.n) (hk : ∀ b, b < H.n → n ≤ b → y = .sl b 0 len true → H'.m b = H.m b) : IsGc n H' sz y len cells := by
  rcases h with h | ⟨b, h1, h2, h3, h4⟩
  · exact .inl h
  · exact .inr ⟨b, h1, h2, Nat.lt_of_lt_of_le h3 hn, (hk b h3 h2 h1).trans h4⟩
theorem IsGc.ext (h : IsGc n H sz y len cells) (hx : HExt H H') : IsGc n H' sz y len cells := h.keep hx.1 fun b hb _ _ => hx.2 b hb
theorem IsGc.less {m : Nat} (h : IsGc n H sz y len cells) (hm : m ≤ n) : IsGc m H sz y len cells := by
  rcases h with h | ⟨b, h1, h2, h3, h4⟩
  · exact .inl h
  · exact .inr ⟨b, h1, Nat.le_trans hm h2, h3, h4⟩
theorem IsGc.lt {b k : Nat} (h : IsGc n H sz (.sl b 0 k true) len cells) : n ≤ b ∧ b < H.n := by
  rcases h with ⟨h, _⟩ | ⟨b', h1, h2, h3, h4⟩
  · cases h
  · injection h1 with h1; subst h1; exact ⟨h2, h3⟩
theorem IsGc.frz (h : IsGc n H sz y len cells) (hc : ∀ sv ∈ cells, pers sv = true) : ∃ H2, Frz n H y (.vs len cells) H2 ∧ H2.n = H.n ∧ ∀ b, b < H.n → (∀ m, y ≠ .sl b 0 m true) → H2.m b = H.m b := by
  rcases h with ⟨rfl, rfl, rfl⟩ | ⟨b, rfl, h2, h3, h4⟩
  · exact ⟨H, .inr (.inl ⟨rfl, rfl, rfl⟩), rfl, fun _ _ _ => rfl⟩
  · exact ⟨H.set b none, .inr (.inr ⟨b, 0, len, true, _, cells.length, rfl, h2, h4, rfl, hc, by simp, rfl⟩), rfl, fun b' _ hne => Heap.set_ne _ _ _ fun e => hne len (by rw [e])⟩
end

/-- y has become y', all else is as it was -/
structure Keep (y : SV) (H : Heap) (y' : SV) (H' : Heap) : Prop where
  n : H.n ≤ H'.n
  keep : ∀ b, b < H.n → (∀ m, y ≠ .sl b 0 m true) → H'.m b = H.m b
  fresh : ∀ b m, y' = .sl b 0 m true → H.n ≤ b ∨ y = .sl b 0 m true
theorem Keep.of {y y' : SV} {Hb H H' : Heap} (h : Keep y H y' H') (hx : HExt Hb H) : Keep y Hb y' H' :=
  ⟨Nat.le_trans hx.1 h.n, fun b hb hy => (h.keep b (Nat.lt_of_lt_of_le hb hx.1) hy).trans (hx.2 b hb), fun b m hm => (h.fresh b m hm).imp (fun h1 => Nat.le_trans hx.1 h1) id⟩
/-- beside one that has grown, the other one -/
theorem Sep.grow {n sz len : Nat} {H H' : Heap} {y y' z : SV} {cells : List SV} (hs : Sep y z) (hz : IsGc n H sz z len cells) (hk : Keep y H y' H') : Sep y' z := by
  intro b k1 k2 h1 h2
  rcases hk.fresh b k1 h1 with h | h
  · subst h2
    have := hz.lt; omega
  · exact hs b k1 k2 h h2
theorem IsGc.beside {n sz len : Nat} {H H' : Heap} {y y' z : SV} {cells : List SV} (hz : IsGc n H sz z len cells) (hs : Sep y z) (hk : Keep y H y' H') : IsGc n H' sz z len cells :=
  hz.keep hk.n fun b hb _ he => hk.keep b hb fun m hy => hs b m _ hy he

/-- **append**: the list has grown, by whatever -/
theorem aappend_G {te : Nat → Option TI} {n sz len e st xt k : Nat} {H : Heap} {y : SV} {cells news : List SV} {x : AV} {ti : TI} {a1 a2 b1 b2 e' : Nat} {a3 b3 : List Value} {a4 b4 : Bool}
    (hst : te st = some ⟨a1, a2, .sli e, a3, a4⟩) (hxt : te xt = some ⟨b1, b2, .sli e', b3, b4⟩) (hti : te e = some ti) (hsz : ti.size = sz) (hsz0 : sz ≠ 0) (hb0 : ti.bytes ≠ 0)
    (hg : IsGc n H sz y len cells) (hcl : cells.length = len * sz) (hsrc : asrc te H e xt x = some (k, news)) (hnews : news.length = k * sz) (hn : n ≤ H.n) (hcap : (len + k) * ti.bytes ≤ 70368744177664) :
    ∃ y' H', aappendX te H st xt (.s y) x = some (.s y', H') ∧ IsGc n H' sz y' (len + k) (cells ++ news) ∧ H.n ≤ H'.n ∧ (∀ b, b < H.n → (∀ m, y ≠ .sl b 0 m true) → H'.m b = H.m b) ∧ (∀ b m, y' = .sl b 0 m true → H.n ≤ b ∨ y = .sl b 0 m true) := by
  have e1 : aappendX te H st xt (.s y) x = aappend te H st xt (.s y) x := by simp only [aappendX, hxt]
  rw [e1]
  unfold aappend
  simp only [hst, hti, hsrc]
  by_cases hk : k = 0
  · subst hk
    have : news = [] := List.length_eq_zero_iff.1 (by rw [hnews]; simp)
    subst this
    rcases hg with ⟨rfl, rfl, rfl⟩ | ⟨b, rfl, h2, h3, h4⟩
    · exact ⟨.raw (.slice none 0 0), H, by simp, .inl ⟨rfl, rfl, rfl⟩, Nat.le_refl _, fun _ _ _ => rfl, fun _ _ h => .inr h⟩
    · exact ⟨.sl b 0 len true, H, by simp [h4], .inr ⟨b, rfl, h2, h3, by simpa using h4⟩, Nat.le_refl _, fun _ _ _ => rfl, fun _ _ h => .inr h⟩
  · rcases hg with ⟨rfl, rfl, rfl⟩ | ⟨b, rfl, h2, h3, h4⟩
    · have hc : k * ti.bytes ≤ 70368744177664 := by simpa using hcap
      refine ⟨.sl H.n 0 k true, H.push { cells := news, esz := ti.size, wr := true }, by simp [hk, hc, hb0], .inr ⟨H.n, by simp, hn, by simp, by simp [hsz]⟩, by simp, fun b hb _ => Heap.push_ne _ _ (by omega), fun b m h => ?_⟩
      injection h with h; left; omega
    · refine ⟨.sl H.n 0 (len + k) true, (H.set b none).push { cells := cells ++ news, esz := sz, wr := true }, ?_, .inr ⟨H.n, rfl, hn, by simp, ?_⟩, by simp, fun b' hb' hne => ?_, fun b' m h => ?_⟩
      · simp [h4, hk, hb0, hcap, hsz, hsz0, hcl]
      · have : ((H.set b none).push { cells := cells ++ news, esz := sz, wr := true }).m H.n = some { cells := cells ++ news, esz := sz, wr := true } := Heap.push_same (H.set b none) _
        exact this
      · rw [Heap.push_ne _ _ (by simp; omega)]
        exact Heap.set_ne _ _ _ fun e => hne len (by rw [e])
      · injection h with h; left; omega

section
variable {P : Program} {te : Nat → Option TI} {σ : Slots} {H : Heap} {Q : Post}
theorem vops_mono {all : Array Oper} {K K' : Slots → Heap → Prop} (h : ∀ σ H, K σ H → K' σ H) : ∀ (l : List Oper) (σ : Slots) (H : Heap), VOps P te all l σ H K → VOps P te all l σ H K'
  | [], σ, H, hv => h σ H hv
  | o :: rest, σ, H, hv => by
    simp only [VOps] at hv ⊢
    split at hv
    · split at hv
      · obtain ⟨R, h1, h2⟩ := hv
        exact ⟨R, h1, fun r H' hR => vops_mono h rest _ _ (h2 r H' hR)⟩
      · split at hv
        · exact vops_mono h rest _ _ hv
        · exact hv.elim
    · exact vops_mono h rest _ _ hv
    · exact hv.elim
theorem vd_mono {all : Array Oper} {K K' : Slots → Heap → Prop} (h : ∀ σ H, K σ H → K' σ H) : ∀ (l : List Oper) (σ : Slots) (H : Heap), VD P te all l σ H K → VD P te all l σ H K'
  | [], σ, H, hv => h σ H hv
  | o :: rest, σ, H, hv => by
    simp only [VD] at hv ⊢
    split at hv
    · split at hv
      · obtain ⟨r, H', h1, h2, h3⟩ := hv
        exact ⟨r, H', h1, h2, vd_mono h rest _ _ h3⟩
      · split at hv
        · exact ⟨hv.1, vd_mono h rest _ _ hv.2⟩
        · exact hv.elim
    · exact vd_mono h rest _ _ hv
    · exact hv.elim
theorem vc_mono : ∀ {c : Code} {σ : Slots} {H : Heap} {Q Q' : Post}, (∀ e σ H, Q e σ H → Q' e σ H) → VC P te c σ H Q → VC P te c σ H Q' := by
  intro c
  induction c with
  | skip => intro σ H Q Q' h hv; exact h _ _ _ hv
  | label l => intro σ H Q Q' h hv; exact h _ _ _ hv
  | exit id => intro σ H Q Q' h hv; exact h _ _ _ hv
  | ret => intro σ H Q Q' h hv; exact h _ _ _ hv
  | region id ops d =>
    intro σ H Q Q' h hv
    cases d with
    | false => exact vops_mono (h _) _ _ _ hv
    | true => exact ⟨hv.1, vd_mono (h _) _ _ _ hv.2⟩
  | seq x y ihx ihy =>
    intro σ H Q Q' h hv
    refine ihx (fun e σ H he => ?_) hv
    cases e with
    | normal => obtain ⟨σ1, H1, hw, h1⟩ := he; exact ⟨σ1, H1, hw, ihy h h1⟩
    | _ => exact h _ _ _ he
  | cond c x y ihx ihy =>
    intro σ H Q Q' h hv
    simp only [VC] at hv ⊢
    split at hv
    · rename_i b _
      cases b
      · simp only [Bool.false_eq_true, if_false] at hv ⊢; exact ihy h hv
      · simp only [if_true] at hv ⊢; exact ihx h hv
    · exact hv.elim
  | block id c ih =>
    intro σ H Q Q' h hv
    refine ih (fun e σ H he => ?_) hv
    cases e with
    | exit i =>
      simp only [PBlock] at he ⊢
      split
      · rename_i e; rw [if_pos e] at he; exact h _ _ _ he
      · rename_i e; rw [if_neg e] at he; exact h _ _ _ he
    | _ => exact h _ _ _ he
  | loop c ih =>
    intro σ H Q Q' h hv
    obtain ⟨J, k, h0, hr⟩ := hv
    refine ⟨J, k, h0, fun k σ H hj => ih (fun e σ H he => ?_) (hr k σ H hj)⟩
    cases e with
    | normal => exact he
    | _ => exact h _ _ _ he
  | _ => intro σ H Q Q' h hv; exact hv.elim
/-- append, in a region of the text's order -/
theorem vx_append {α : Type} {f : α → List SV} {all : Array Oper} {d : Option Tmp} {rest : List Oper} {K : Slots → Heap → Prop} {x0 x1 : Operand} {H0 : Heap} {sz e st xt : Nat} {y : SV} {l new : List α} {ti : TI} {a1 a2 b1 b2 e' : Nat} {a3 b3 : List Value} {a4 b4 : Bool}
    (hst : te st = some ⟨a1, a2, .sli e, a3, a4⟩) (hxt : te xt = some ⟨b1, b2, .sli e', b3, b4⟩) (hti : te e = some ti) (hsz : ti.size = sz) (hsz0 : Nat.beq sz 0 = false) (hb0 : Nat.beq ti.bytes 0 = false) (hf : ∀ a, (f a).length = sz)
    (hx : HExt H0 H) (hg : IsG f sz H0.n H y l) (hy : ev σ x0 = .s y) (hsrc : asrc te H e xt (ev σ x1) = some (new.length, FL f new)) (hcap : (l.length + new.length) * ti.bytes ≤ 70368744177664)
    (h : ∀ y' H', IsG f sz H0.n H' y' (l ++ new) → HExt H0 H' → Keep y H y' H' → VOps P te all rest (Upd σ d (.s y')) H' K) :
    VX P te all (.call { callee := .builtin .append, args := #[x0, x1], argTypes := #[st, xt] }) d rest σ H K := by
  have hsz0' : sz ≠ 0 := fun e => by rw [e] at hsz0; cases hsz0
  have hb0' : ti.bytes ≠ 0 := fun e => by rw [e] at hb0; cases hb0
  obtain ⟨y', H', h1, h2, h3, h4, h5⟩ := aappend_G hst hxt hti hsz hsz0' hb0' hg (FL_len hf l) hsrc (FL_len hf new) hx.1 hcap
  refine vx_op' rfl fun k hk => ?_
  have e : aop te σ H (.call { callee := .builtin .append, args := #[x0, x1], argTypes := #[st, xt] }) = some (.s y', H') := by
    simp only [aop, List.map_cons, List.map_nil, abuiltin, hy]; exact h1
  rw [e, bA_some]
  have hx' : HExt H0 H' := ⟨Nat.le_trans hx.1 h3, fun b hb => (h4 b (Nat.lt_of_lt_of_le hb hx.1) fun m e => by
    have hgl : IsGc H0.n H sz (.sl b 0 m true) l.length (FL f l) := by rw [← e]; exact hg
    have := hgl.lt; omega).trans (hx.2 b hb)⟩
  exact hk _ _ (h y' H' (by rw [IsG, List.length_append, FL_app]; exact h2) hx' ⟨h3, h4, h5⟩)
/-- a call of a function value -/
theorem vx_callf {all : Array Oper} {d : Option Tmp} {t : Nat} {f : FuncId} {caps : List (Nat × Nat)} {args : List Operand} {ts : Array TypeId} {rest : List Oper} {K : Slots → Heap → Prop} {cs : List Cmp}
    (hf : σ t = .s (.fn f caps)) (hc : cmps (args.map (ev σ)) = some cs) (h : CallV P f (cs ++ caps.map fun p => .s (.ptr p.1 p.2)) H fun r H' => VOps P te all rest (Upd σ d r) H' K) : VX P te all (.call { callee := .value (.tmp t), args := args.toArray, argTypes := ts }) d rest σ H K := by
  have : callOf σ (.call { callee := .value (.tmp t), args := args.toArray, argTypes := ts }) = some (f, cs ++ caps.map fun p => .s (.ptr p.1 p.2)) := by simp [callOf, ev, hf, hc]
  unfold VX
  rw [this]; exact h
/-- a loop of so many rounds at most -/
theorem vc_range {c : Code} (n : Nat) (J : Nat → Slots → Heap → Prop) (h0 : J 0 σ H) (hr : ∀ i σ H, i ≤ n → J i σ H → VC P te c σ H (PThen (fun σ' H' => i < n ∧ J (i + 1) σ' H') Q)) : VC P te (.loop c) σ H Q := by
  refine vc_loop' ⟨fun k σ' H' => ∃ i, k = n - i ∧ i ≤ n ∧ J i σ' H', n, ⟨0, by omega, by omega, h0⟩, ?_⟩
  rintro k σ' H' ⟨i, rfl, hi, hj⟩
  have := hr i σ' H' hi hj
  refine vc_mono ?_ this
  intro e σ1 H1 h
  cases e with
  | normal =>
    obtain ⟨h1, h2⟩ := h
    exact ⟨n - (i + 1), by omega, i + 1, rfl, by omega, h2⟩
  | _ => exact h
/-- a slot's list is written no more -/
theorem weak_frz {t : Nat} {x y : SV} {H1 : Heap} (hx : σ t = .s x) (h : Frz 0 H x y H1) : Weak σ H (Upd σ (some t) (.s y)) H1 := by
  intro B N ds ρ a w ⟨hr, hs, h3, h4⟩
  by_cases ht : t < a.tmps.size
  · have hv := hs t ht
    rw [hx] at hv
    obtain ⟨ρ', g1, g2, ⟨g3, _⟩, _⟩ := frz_ok hr hv h
    refine ⟨ρ', g2, g1, fun i hi => ?_, h3, h4⟩
    simp only [Upd]
    by_cases e : i = t
    · subst e; simp only [if_true]; exact g3
    · simp only [e, if_false]; exact (hs i hi).mono g2.le
  · have hsl : SlotsR ρ (Upd σ (some t) (.s y)) a.tmps := fun i hi => by
      simp only [Upd]
      rw [if_neg (by omega)]; exact hs i hi
    rcases h with ⟨_, _, rfl⟩ | ⟨_, _, rfl⟩ | ⟨b, off, k, gr, blk, m, _, _, _, _, _, _, rfl⟩
    · exact ⟨ρ, Step.refl _ _ _, hr, hsl, h3, h4⟩
    · exact ⟨ρ, Step.refl _ _ _, hr, hsl, h3, h4⟩
    · have hm : ∀ b' x, (H.set b none).m b' = some x → H.m b' = some x := fun b' x hh => by
        by_cases e : b' = b
        · subst e; rw [Heap.set_same] at hh; cases hh
        · rw [Heap.set_ne _ _ _ e] at hh; exact hh
      have ho : ∀ k, Own ρ (H.set b none) k → Own ρ H k := by
        rintro k ⟨b', co, cc, x, g1, g2, g3⟩; exact ⟨b', co, cc, x, g1, hm _ _ g2, g3⟩
      exact ⟨ρ, ⟨rfl, rfl, rfl, Nat.le_refl _, fun _ _ _ => rfl, fun k hk => .inl (ho k hk), Le.refl _, fun b cb co cc h h' => (by rw [h] at h'; cases h'), Nat.le_refl _, fun _ _ h => h, fun _ _ _ h => .inl h⟩,
        ⟨⟨hr.hB, hr.fresh, fun b' x hh => hr.live b' x (hm _ _ hh), fun b' cb co cc x g1 g2 => hr.blk b' cb co cc x g1 (hm _ _ g2), fun b1 b2 k co1 cc1 co2 cc2 x1 x2 hne g1 g2 g3 g4 => hr.sep b1 b2 k co1 cc1 co2 cc2 x1 x2 hne g1 g2 (hm _ _ g3) (hm _ _ g4)⟩, fun cb j v hv => ⟨(hr.imm cb j v hv).1, fun h => (hr.imm cb j v hv).2 (ho _ h)⟩⟩, hsl, h3, h4⟩
end
/-- what was made is handed back, and written no more -/
theorem acalls_of_G {P : Program} {α : Type} {f : α → List SV} {sz : Nat} (hp : ∀ a, (f a).all pers = true) {fn : FuncId} {args : List Cmp} {H : Heap} {l : List α} (h : ACallsR P fn args H fun r H' => ∃ y, r = .s y ∧ IsG f sz H.n H' y l ∧ HExt H H') : ACalls P fn args H (.s (LV f l)) H := by
  refine acalls_gc ⟨h.1, fun B ρ w cargs h1 h2 => (h.2 B ρ w cargs h1 h2).mono ?_⟩
  rintro e w' ⟨rv, ρ', r1, H1, g1, g2, g3, g4, y, rfl, hg, hx⟩
  obtain ⟨H2, hf, _⟩ := hg.frz (FL_pers hp l)
  exact ⟨rv, ρ', _, H1, g1, g2, g3, g4, hx, H2, hf⟩
theorem acalls_of_G2 {P : Program} {α : Type} {f : α → List SV} {sz : Nat} (hp : ∀ a, (f a).all pers = true) {fn : FuncId} {args : List Cmp} {H : Heap} {l m : List α} (h : ACallsR P fn args H fun r H' => ∃ y z, r = .tup [.s y, .s z] ∧ IsG f sz H.n H' y l ∧ IsG f sz H.n H' z m ∧ Sep y z ∧ HExt H H') : ACalls P fn args H (.tup [.s (LV f l), .s (LV f m)]) H := by
  refine acalls_gc ⟨h.1, fun B ρ w cargs h1 h2 => (h.2 B ρ w cargs h1 h2).mono ?_⟩
  rintro e w' ⟨rv, ρ', r1, H1, g1, g2, g3, g4, y, z, rfl, hg, hg', hs, hx⟩
  obtain ⟨H2, hf, hn, hk⟩ := hg.frz (FL_pers hp l)
  have hg2 : IsG f sz H.n H2 z m := hg'.keep (by rw [hn]; exact Nat.le_refl _) fun b hb _ he => hk b hb fun k hy => hs b k _ hy he
  obtain ⟨H3, hf3, _⟩ := hg2.frz (FL_pers hp m)
  exact ⟨rv, ρ', _, H1, g1, g2, g3, g4, hx, H3, H2, hf, H3, hf3, rfl⟩

theorem wrap_id {n : Int} (h1 : -9223372036854775808 ≤ n) (h2 : n < 9223372036854775808) : IntKind.i64.wrap n = n := by rw [IntKind.wrap_i64]; omega
theorem wrap_succ {n : Nat} (h : n < 1000000000000) : IntKind.i64.wrap ((n : Int) + 1) = ((n + 1 : Nat) : Int) := by rw [wrap_id] <;> omega
theorem wrap_pred {n : Nat} (h : n < 1000000000000) (h0 : 0 < n) : IntKind.i64.wrap ((n : Int) - 1) = ((n - 1 : Nat) : Int) := by rw [wrap_id] <;> omega
theorem ilt {i n : Nat} (h : i < n) : ((i : Int) < (n : Int)) = True := by simp; omega
theorem ige {i n : Nat} (h : ¬ i < n) : ((i : Int) < (n : Int)) = False := by simp; omega
theorem ipos {i : Nat} (h : 0 < i) : ((i : Int) > 0) = True := by simp; omega
theorem inpos {i : Nat} (h : ¬ 0 < i) : ((i : Int) > 0) = False := by simp; omega
theorem nlt {b n : Nat} (h : b < n) (k : Nat) : (b = n + k) = False := by simp; omega
theorem nlt0 {b n : Nat} (h : b < n) : (b = n) = False := by simp; omega
theorem drop_at {α : Type} {l : List α} {i : Nat} {a : α} (h : l[i]? = some a) : l.drop i = a :: l.drop (i + 1) := by
  have hi : i < l.length := (List.getElem?_eq_some_iff.1 h).1
  rw [List.drop_eq_getElem_cons hi]; rw [List.getElem?_eq_getElem hi] at h; injection h with h; rw [h]
attribute [go_sem] Int.toNat_natCast Int.natCast_nonneg Int.natCast_zero aappend aappendX aappendZ asrc Option.getD_some Option.getD_none Option.isSome_some Option.isSome_none
end Go.Abs
/-
  A slice of slices that is handed over.
-/
namespace Go.Abs
set_option linter.unusedVariables false
set_option linter.unusedSimpArgs false
open Go.RowKit

theorem Rel.weaken {B : Nat} {ρ : Env} {H : Heap} {w : World} (hr : Rel B ρ H w) {b cb co cc : Nat} {blk : Blk} {cells' : List SV} {vs : List Value} (hat : ρ b = .at_ cb co cc) (hx : H.m b = some blk) (hv : Al2 (CS ρ) cells' vs) (hc : ∀ (j : Nat) (v : Value), vs[j]? = some v → w.cell? ⟨cb, co + j, none⟩ = some v) :
    Rel B ρ (H.set b (some { blk with cells := cells' })) w ∧ Step ρ H w ρ (H.set b (some { blk with cells := cells' })) w := by
  have hm : ∀ b' x, (H.set b (some { blk with cells := cells' })).m b' = some x → ∃ y, H.m b' = some y ∧ y.wr = x.wr := fun b' x hh => by
    by_cases e : b' = b
    · subst e; rw [Heap.set_same] at hh; cases hh; exact ⟨blk, hx, rfl⟩
    · rw [Heap.set_ne _ _ _ e] at hh; exact ⟨x, hh, rfl⟩
  have ho : ∀ k, Own ρ (H.set b (some { blk with cells := cells' })) k → Own ρ H k := by
    rintro k ⟨b', co, cc, x, g1, g2, g3⟩
    obtain ⟨y, h1, h2⟩ := hm _ _ g2
    exact ⟨b', co, cc, y, g1, h1, by rw [h2]; exact g3⟩
  refine hr.with ⟨⟨hr.hB, hr.fresh, fun b' x hh => ?_, fun b' cb' co' cc' x g1 g2 => ?_, fun b1 b2 k co1 cc1 co2 cc2 x1 x2 hne g1 g2 g3 g4 => ?_⟩, ⟨rfl, rfl, rfl, Nat.le_refl _, fun _ _ _ => rfl, fun k hk => .inl (ho k hk), Le.refl _, fun b cb co cc h h' => (by rw [h] at h'; cases h'), Nat.le_refl _, fun _ _ h => h, fun _ _ _ h => .inl h⟩⟩
  · obtain ⟨y, h1, _⟩ := hm _ _ hh; exact hr.live b' y h1
  · by_cases e : b' = b
    · subst e
      rw [Heap.set_same] at g2; cases g2
      rw [hat] at g1; cases g1
      obtain ⟨C, T, fz, k1, k2, k3, k4⟩ := hr.blk b' cb co cc blk hat hx
      refine ⟨C, T, fz, k1, fun j sv hj => ?_, k3, k4⟩
      obtain ⟨v, h1, h2⟩ := hv.get hj
      have := hc j v h1
      simp only [World.cell?, k1] at this
      exact ⟨v, this, h2⟩
    · rw [Heap.set_ne _ _ _ e] at g2
      exact hr.blk b' cb' co' cc' x g1 g2
  · obtain ⟨y1, h1, e1⟩ := hm _ _ g3
    obtain ⟨y2, h2, e2⟩ := hm _ _ g4
    have := hr.sep b1 b2 k co1 cc1 co2 cc2 y1 y2 hne g1 g2 h1 h2
    rw [← e1, ← e2]; exact this

/-- a slice of slices is seen as one that does not change any more -/
theorem frz_deep {B : Nat} {ρ : Env} {H H1 : Heap} {w : World} (hr : Rel B ρ H w) {b k : Nat} {gr : Bool} {blk : Blk} {cells' : List SV} {v : Value} (hv : CS ρ (.sl b 0 k gr) v) (hb : H.m b = some blk) (hw : blk.wr = true) (hl : FrzL 0 H blk.cells cells' H1) (hb1 : H1.m b = some blk) :
    ∃ ρ', Rel B ρ' (H1.set b none) w ∧ Step ρ H w ρ' (H1.set b none) w ∧ CS ρ' (.vs k cells') v := by
  obtain ⟨cb, co, cc, o, c, hat, hlc, hoo, hvv, _⟩ := sl_at hr hv hb
  obtain ⟨vs, h1, h2, h3⟩ := hr.row hat hb 0 blk.cells.length (by simp)
  rw [List.drop_zero, List.take_length] at h1
  obtain ⟨ρ1, a1, a2, ⟨a3, a4⟩, a5, _⟩ := frzL_ok hr h1 hl
  have hat1 : ρ1 b = .at_ cb co cc := by
    rcases a2.le b with h | h | h
    · rw [hat] at h; cases h
    · rw [h, hat]
    · exact absurd h (a1.live b blk hb1)
  obtain ⟨b1, b2⟩ := a1.weaken hat1 hb1 a3 (fun j v hj => by have := h3 j v hj; rwa [Nat.zero_add] at this)
  obtain ⟨ρ2, c1, c2, c3⟩ := b1.freeze hat1 (Heap.set_same _ _ _) hw (List.all_eq_true.1 a4)
  rw [Heap.set_set] at c1 c2
  refine ⟨ρ2, c1, (a2.trans b2).trans c2, ?_⟩
  simp only [CS]
  exact ⟨_, c, cb, co, hvv, hlc, fun hne => by rw [hoo hne, Nat.add_zero], (fun h => nomatch h), c3⟩
theorem callv_deep {P : Program} {f : FuncId} {H H1 : Heap} {K : AV → Heap → Prop} {b k : Nat} {gr : Bool} {blk : Blk} {cells' : List SV} (hb : H.m b = some blk) (hw : blk.wr = true) (hl : FrzL 0 H blk.cells cells' H1) (hb1 : H1.m b = some blk)
    (h : CallV P f [.s (.vs k cells')] (H1.set b none) K) : CallV P f [.s (.sl b 0 k gr)] H K := by
  obtain ⟨R, k1, k2⟩ := h
  refine ⟨R, ⟨k1.1, fun B ρ w cargs hrel hargs => ?_⟩, k2⟩
  match cargs, hargs with
  | [v], hargs =>
    obtain ⟨ρ1, a1, a2, a3⟩ := frz_deep hrel hargs.1 hb hw hl hb1
    refine (k1.2 B ρ1 w [v] a1 ⟨a3, trivial⟩).mono ?_
    rintro e w' ⟨rv, ρ0, r1, H2, he, h1, h2, h3, hR⟩
    exact ⟨rv, ρ0, r1, H2, he, h1, h2, a2.trans h3, hR⟩
  | [], hargs => exact hargs.elim
  | _ :: _ :: _, hargs => exact hargs.2.elim
end Go.Abs
