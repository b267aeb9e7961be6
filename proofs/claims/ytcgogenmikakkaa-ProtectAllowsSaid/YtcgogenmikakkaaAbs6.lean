/-
  One operation on the abstract heap, the rest; and all of them in one.
-/
import Derived.Test.YtcgogenmikakkaaAbs5
namespace Go.Abs
set_option linter.unusedVariables false
set_option linter.unusedSimpArgs false
open Go.RowKit

section
variable {P : Program} {te : Nat → Option TI} {B : Nat} {ρ : Env} {H H' : Heap} {w : World} {a : Act} {σ : Slots} {r : AV}

theorem run_bs {t e len : Nat} {ti : TI} (hu : P.underlying t = some (.slice e)) (ht : TIok P e ti) {zv : Value} (hz : (Go.zeroValue e).run P w = .ok zv w) (hc : len * ti.size ≤ 16777216) (hc2 : ti.size ≠ 0) (ps : Array (Nat × Value)) (cs' : Array Value)
    (h3 : Instr.fill (fun i => some (i * ti.size, ti.size)) ((Array.range (len * ti.size)).map (fun i => zv.cells[i % zv.cells.size]!)) ps.toList = some cs') (hlen : cs'.size = len * ti.size) :
    (Instr.buildSlice t len ps).run P w = .ok (.slice (some ⟨w.heap.size, 0, none⟩) len len) (w.alloc (.cells cs' e)) := by
  have hle : ¬ (16777216 < len * ti.size) := by omega
  by_cases h0 : len * ti.size = 0
  · have hl0 : len = 0 := by
      rcases Nat.mul_eq_zero.1 h0 with h | h
      · exact h
      · exact absurd h hc2
    subst hl0
    have e0 : Array.map (fun i => (default : Value)) (Array.range 0) = Array.map (fun i => zv.cells[i % zv.cells.size]!) (Array.range 0) := by simp [Array.range_zero']
    simp only [Nat.zero_mul] at h3
    rw [← e0] at h3
    simp [Instr.buildSlice, Go.run_underlying hu, ht.sizeOf, newRow]
    simp [h3]
  · have h0' : ¬ (len = 0 ∨ ti.size = 0) := by
      rintro (h | h)
      · exact h0 (by rw [h, Nat.zero_mul])
      · exact hc2 h
    have hl0 : len ≠ 0 := fun h => h0' (.inl h)
    simp [Instr.buildSlice, Go.run_underlying hu, ht.sizeOf, hl0, hc2, hle, hz, newRow]
    simp [h3, h0]

theorem ok_buildSlice (hte : TEok P te) (hr : Rel B ρ H w) {o : Oper} {t len : Nat} {parts : Array (Nat × Operand)} (ho : o.op = .buildSlice t len parts) (hp : ∀ p ∈ parts.toList, CA ρ (ev σ p.2) (a.eval p.2)) (h : aop te σ H o.op = some (r, H')) : OpOk P B ρ H w a o r H' := by
  rw [ho] at h
  simp only [aop] at h
  split at h
  case h_2 => cases h
  rename_i _ _ e _ _ hti
  split at h
  case h_2 => cases h
  rename_i ti hte'
  split at h
  case isFalse => cases h
  rename_i hc
  rw [Option.map_eq_some_iff] at h
  obtain ⟨cs, h1, h2⟩ := h
  cases h2
  have ht := hte _ _ hte'
  have hu : P.underlying t = some (.slice e) := (hte _ _ hti).kind
  obtain ⟨zv, hz, hz'⟩ := ht.zeroValue w
  have hzl : ti.zero.length = ti.size := ht.zsz
  have hz0 : ti.zero.length ≠ 0 := by rw [hzl]; exact hc.2
  have hrow := zrow_al2 (ρ := ρ) (za := zv.cells) hz' hz0 (zero_al2 ht) len
  obtain ⟨cs', h3, h4⟩ := afill_ok (ρ := ρ) (σ := σ) (a := a) (place := fun i => some (i * ti.size, ti.size)) parts.toList (zrep len (ti.zero.map .raw)) ((Array.range (len * ti.size)).map (fun i => zv.cells[i % zv.cells.size]!)) cs
    (by rw [Array.toList_map, Array.toList_range]; rw [hzl] at hrow; exact hrow) hp h1
  have hlen : cs'.size = len * ti.size := by
    have : ∀ (ps : List (Nat × Value)) (c c' : Array Value) (pl : Nat → Option (Nat × Nat)), Instr.fill pl c ps = some c' → c'.size = c.size := by
      intro ps
      induction ps with
      | nil => intro c c' pl hh; simp [Instr.fill] at hh; rw [hh]
      | cons p ps ih =>
        intro c c' pl hh
        simp only [Instr.fill] at hh
        split at hh
        · cases hh
        · split at hh
          · cases hh
          · rename_i off size _ _
            rw [ih _ _ _ hh]
            rw [← Array.length_toList, ← Array.foldl_toList, foldl_set_array]
            have : ∀ (l : List (Value × Nat)) (d : List Value), (l.foldl (fun cs p => cs.set (off + p.2) p.1) d).length = d.length := by
              intro l
              induction l with
              | nil => intro d; rfl
              | cons q l ih2 => intro d; simp [ih2]
            rw [this]; simp
    rw [this _ _ _ _ h3]; simp
  obtain ⟨h5, h6⟩ := hr.new cs cs' e ti.size len (fun j sv hj => by
    obtain ⟨v, h7, h8⟩ := h4.get hj
    exact ⟨v, by rw [← Array.getElem?_toList]; exact h7, h8⟩) (fun _ => by rw [hlen]; exact Nat.le_refl _)
  refine ⟨.value (.slice (some ⟨w.heap.size, 0, none⟩) len len), _, _, ?_, .inl ⟨_, rfl, ?_⟩, h5, h6⟩
  · have hb := run_bs (P := P) hu ht hz hc.1 hc.2 (parts.map fun (i, x) => (i, a.eval x)) cs' (by simpa using h3) hlen
    simp only [execOp, ho, Sem.run_bind]
    rw [hb]
    simp
  · simp [CA, CS, LC]

/-- a bound of a slice expression, and its number -/
def BoundIs (v : Option Value) (n : Option Int) : Prop :=
  match v, n with
  | none, none => True
  | some v, some n => ∃ k, v = .int k n
  | _, _ => False

theorem oint_ok {lo : Option Operand} {n : Option Int} (hlo : ∀ y, lo = some y → CA ρ (ev σ y) (a.eval y)) (h : oint (lo.map (ev σ)) = some n) : BoundIs (lo.map a.eval) n := by
  cases lo with
  | none => simp [oint] at h; subst h; trivial
  | some y =>
    have := hlo y rfl
    simp only [Option.map_some] at h ⊢
    unfold oint at h
    split at h
    · rename_i hh; cases hh
    · rename_i k m hh
      injection hh with hh
      injection h with h; subst h
      rw [hh] at this
      exact ⟨k, this.1⟩
    · cases h

theorem run_slice_gen {t e sz : Nat} (hu : P.underlying t = some (.slice e)) (hs : ∀ w, (Go.sizeOf e).run P w = .ok sz w) (ad : Option Addr) (len cap : Nat) {lov hiv : Option Value} {lo hi : Option Int}
    (hlo : BoundIs lov lo) (hhi : BoundIs hiv hi) (h0 : 0 ≤ lo.getD 0) (h1 : lo.getD 0 ≤ hi.getD len) (h2 : hi.getD len ≤ cap) (w : World) :
    (Instr.sliceAt t (.slice ad len cap) lov hiv none).run P w =
      .ok (.slice (if cap = (lo.getD 0).toNat then ad else ad.map (·.add ((lo.getD 0).toNat * sz))) ((hi.getD len).toNat - (lo.getD 0).toNat) (cap - (lo.getD 0).toNat)) w := by
  cases lov <;> cases lo <;> simp only [BoundIs] at hlo <;> cases hiv <;> cases hi <;> simp only [BoundIs] at hhi
  · simp [Instr.sliceAt, Instr.slice, Instr.sliceBounds, Go.run_underlying hu, hs]
  · obtain ⟨k, rfl⟩ := hhi
    simp at h0 h1 h2
    simp [Instr.sliceAt, Instr.slice, Instr.sliceBounds, Instr.sliceBound, asIntOf, Go.run_underlying hu, hs, h1, h2]
  · obtain ⟨k, rfl⟩ := hlo
    simp at h0 h1 h2
    simp [Instr.sliceAt, Instr.slice, Instr.sliceBounds, Instr.sliceBound, asIntOf, Go.run_underlying hu, hs, h0, h1]
  · obtain ⟨k, rfl⟩ := hlo
    obtain ⟨k', rfl⟩ := hhi
    simp at h0 h1 h2
    rename_i l h
    have h3 : 0 ≤ h := by omega
    have h4 : l ≤ max h 0 := by omega
    have h5 : ((h.toNat : Nat) : Int) = h := by omega
    simp [Instr.sliceAt, Instr.slice, Instr.sliceBounds, Instr.sliceBound, asIntOf, Go.run_underlying hu, hs, h0, h1, h2, h3, h4]

theorem ok_slice (hte : TEok P te) (hr : Rel B ρ H w) {o : Oper} {t : Nat} {x : Operand} {lo hi : Option Operand} (ho : o.op = .slice t x lo hi none) (hx : CA ρ (ev σ x) (a.eval x))
    (hlo : ∀ y, lo = some y → CA ρ (ev σ y) (a.eval y)) (hhi : ∀ y, hi = some y → CA ρ (ev σ y) (a.eval y)) (h : aop te σ H o.op = some (r, H')) : OpOk P B ρ H w a o r H' := by
  rw [ho] at h
  simp only [aop, aslice] at h
  split at h
  case h_2 => cases h
  rename_i _ _ e _ _ lo' hi' hti hlo' hhi'
  have hu : P.underlying t = some (.slice e) := (hte _ _ hti).kind
  have hbl := oint_ok hlo hlo'
  have hbh := oint_ok hhi hhi'
  split at h
  · rename_i ti he hex
    split at h
    case isFalse => cases h
    rename_i hc
    injection h with h; cases h
    rw [hex] at hx ⊢
    obtain ⟨hx, _⟩ := hx
    have := run_slice_gen (P := P) hu (hte _ _ he).sizeOf none 0 0 hbl hbh (by rw [hc.1]; exact Int.le_refl _) (by rw [hc.1]; simp; rw [hc.2]; exact Int.le_refl _) (by simp; rw [hc.2]; exact Int.le_refl _) w
    refine opok_quiet hr (rv := .slice none 0 0) ?_ ⟨rfl, rfl⟩
    simp [execOp, ho, hx, this, hc.1]
    omega
  · rename_i ti b off len gr he hex
    split at h
    case h_2 => cases h
    rename_i blk hb
    split at h
    case isFalse => cases h
    rename_i hc
    obtain ⟨hc1, hc2, hc3⟩ := hc
    rw [hex] at hx
    obtain ⟨cb, co, cc, oo, c, hat, hlc, hoo, hv, hgr⟩ := sl_at hr hx hb
    have hrun := run_slice_gen (P := P) hu (hte _ _ he).sizeOf (some ⟨cb, oo, none⟩) len c hbl hbh hc1 hc2 (by omega) w
    have hex' : (execOp a.eval o).run P w = .ok (.value (.slice (if c = (lo'.getD 0).toNat then some ⟨cb, oo, none⟩ else (some (⟨cb, oo, none⟩ : Addr)).map (·.add ((lo'.getD 0).toNat * ti.size))) ((hi'.getD len).toNat - (lo'.getD 0).toNat) (c - (lo'.getD 0).toNat))) w := by
      simp only [execOp, ho, hv, Option.map_none, Sem.run_bind, hrun, Result.andThen_ok, Sem.run_pure]
    split at h
    · rename_i hz
      obtain ⟨hz1, hz2, hz3, hz4⟩ := hz
      injection h with h; cases h
      subst hz2
      obtain ⟨rfl, rfl, rfl⟩ := hgr hz3
      obtain ⟨h1, h2⟩ := hr.moved hat hb hz4
      have hm1 : (Heap.push (H.set b none) blk).m H.n = some blk := Heap.push_same (H.set b none) blk
      have key : Rel B ((ρ.put b .dead).put H.n (.at_ cb oo c)) ((H.set b none).push { blk with cells := [] }) w ∧ Step ρ H w ((ρ.put b .dead).put H.n (.at_ cb oo c)) ((H.set b none).push { blk with cells := [] }) w := by
        have hp : ∀ (b' : Nat) (x : Blk), ((H.set b none).push { blk with cells := [] }).m b' = some x → ∃ y : Blk, ((H.set b none).push blk).m b' = some y ∧ y.wr = x.wr ∧ y.esz = x.esz ∧ (∀ (j : Nat) (s : SV), x.cells[j]? = some s → y.cells[j]? = some s) := by
          intro b' x hx'
          by_cases e : b' = H.n
          · subst e
            have : ((H.set b none).push { blk with cells := [] }).m H.n = some { blk with cells := [] } := Heap.push_same (H.set b none) _
            rw [this] at hx'; cases hx'
            exact ⟨blk, hm1, rfl, rfl, fun j s hj => by simp at hj⟩
          · rw [Heap.push_ne _ _ (by simpa using e)] at hx'
            exact ⟨x, by rw [Heap.push_ne _ _ (by simpa using e)]; exact hx', rfl, rfl, fun _ _ h => h⟩
        refine hr.with ⟨⟨h1.hB, h1.fresh, ?_, ?_, ?_⟩, ⟨h2.os, h2.tape, h2.output, h2.size, h2.keep, ?_, h2.le, h2.new, h2.n, h2.abs, h2.memn⟩⟩
        · intro b' x hx'; obtain ⟨y, hy, _⟩ := hp b' x hx'; exact h1.live b' y hy
        · intro b' cb' co' cc' x g1 g2
          obtain ⟨y, hy, hy1, hy2, hy3⟩ := hp b' x g2
          obtain ⟨C, T, fz, k1, k2, k3, k4⟩ := h1.blk b' cb' co' cc' y g1 hy
          exact ⟨C, T, fz, k1, fun j s hj => k2 j s (hy3 j s hj), by rw [← hy1]; exact k3, by rw [← hy2]; exact k4⟩
        · intro b1 b2 k co1 cc1 co2 cc2 x1 x2 hne g1 g2 g3 g4
          obtain ⟨y1, k1, k2, _⟩ := hp _ _ g3
          obtain ⟨y2, k3, k4, _⟩ := hp _ _ g4
          have := h1.sep b1 b2 k co1 cc1 co2 cc2 y1 y2 hne g1 g2 k1 k3
          rw [← k2, ← k4]; exact this
        · rintro k ⟨b', co', cc', x, g1, g2, g3⟩
          obtain ⟨y, hy, hy1, _⟩ := hp b' x g2
          exact h2.own k ⟨b', co', cc', y, g1, hy, by rw [hy1]; exact g3⟩
      refine ⟨_, w, _, hex', .inl ⟨_, rfl, ?_⟩, key.1, key.2⟩
      simp only [Option.getD_none, CA, CS, LC, Env.put_same]
      refine ⟨trivial, Nat.zero_le _, ?_⟩
      rw [hz1]
      by_cases e : c = 0
      · simp [e]
      · have e' : ¬ (c = (0 : Int).toNat) := by simpa using e
        simp [Addr.add_lit, e]
    · injection h with h; cases h
      refine opok_quiet hr hex' ?_
      simp only [CA, CS, LC, hat]
      refine ⟨c - (lo'.getD 0).toNat, if c = (lo'.getD 0).toNat then oo else oo + (lo'.getD 0).toNat * ti.size, by omega, ?_, ?_⟩
      · intro hne
        have : len ≠ 0 := by omega
        rw [hoo this, if_neg (by omega)]; omega
      · by_cases e : c = (lo'.getD 0).toNat <;> simp [e, Addr.add_lit]
  · rename_i ti n cells he hex
    split at h
    case isFalse => cases h
    rename_i hc
    obtain ⟨hc1, hc2, hc3⟩ := hc
    injection h with h; cases h
    rw [hex] at hx
    simp only [CA, CS] at hx
    obtain ⟨ad, c, cb, co, hv, hlc, ha, hcn, hm⟩ := hx
    have hrun := run_slice_gen (P := P) hu (hte _ _ he).sizeOf ad n c hbl hbh hc1 hc2 (by omega) w
    have hex' : (execOp a.eval o).run P w = .ok (.value (.slice (if c = (lo'.getD 0).toNat then ad else ad.map (·.add ((lo'.getD 0).toNat * ti.size))) ((hi'.getD n).toNat - (lo'.getD 0).toNat) (c - (lo'.getD 0).toNat))) w := by
      simp only [execOp, ho, hv, Option.map_none, Sem.run_bind, hrun, Result.andThen_ok, Sem.run_pure]
    refine opok_quiet hr hex' ?_
    simp only [CA, CS]
    refine ⟨_, _, cb, co + (lo'.getD 0).toNat * ti.size, rfl, by omega, fun hne => ?_, fun hn => ?_, MS_take (MS_drop hm _) _⟩
    · rw [ha (by omega), if_neg (by omega)]
      simp [Addr.add_lit]
    · cases ad with
      | none => have := hcn rfl; omega
      | some ad => split at hn <;> simp at hn
  · cases h

theorem ptrs_ok : ∀ {xs : List Operand} {ps : List (Nat × Nat)}, ptrs (xs.map (ev σ)) = some ps → (∀ x ∈ xs, CA ρ (ev σ x) (a.eval x)) → Al2 (fun p v => PC ρ p.1 p.2 v) ps (xs.map a.eval)
  | [], ps, h, _ => by simp [ptrs] at h; subst h; trivial
  | x :: xs, ps, h, hc => by
    simp only [List.map_cons] at h
    unfold ptrs at h
    split at h
    · rename_i hh; cases hh
    · rename_i b off ys hh
      injection hh with h1 h2
      subst h2
      rw [Option.map_eq_some_iff] at h
      obtain ⟨qs, h3, rfl⟩ := h
      have := hc x (by simp)
      rw [h1] at this
      exact ⟨this, ptrs_ok h3 fun y hy => hc y (by simp [hy])⟩
    · cases h

theorem ok_builtin (hte : TEok P te) (hr : Rel B ρ H w) {o : Oper} {b : Builtin} {args : Array Operand} {ts : Array Nat} (ho : o.op = .call { callee := .builtin b, args := args, argTypes := ts })
    (hx : ∀ x ∈ args.toList, CA ρ (ev σ x) (a.eval x)) (h : aop te σ H o.op = some (r, H')) : OpOk P B ρ H w a o r H' := by
  obtain ⟨args⟩ := args
  obtain ⟨ts⟩ := ts
  rw [ho] at h
  simp only [aop] at h
  unfold abuiltin at h
  split at h
  · -- len
    rename_i x t hargs
    obtain ⟨y, rfl, rfl⟩ : ∃ y, args = [y] ∧ ev σ y = x := by
      cases args with
      | nil => simp at hargs
      | cons y ys => cases ys <;> simp at hargs; exact ⟨y, rfl, hargs⟩
    have hxy := hx y (by simp)
    split at h
    · rename_i _ _ e _ _ hti hev
      injection h with h; cases h
      rw [hev] at hxy
      obtain ⟨hv, _⟩ := hxy
      have hu : P.underlying t = some (.slice e) := (hte _ _ hti).kind
      exact opok_quiet hr (rv := .int .i64 0) (by simp [execOp, ho, resolve, invoke, builtin, Builtin.len_, Go.run_underlying hu, hv, goInt]) ⟨rfl, rfl⟩
    · rename_i _ _ e _ _ b off n gr hti hev
      split at h
      case h_2 => cases h
      rename_i blk hb
      injection h with h; cases h
      rw [hev] at hxy
      obtain ⟨cb, co, cc, oo, c, hat, hlc, hoo, hv, _⟩ := sl_at hr hxy hb
      have hu : P.underlying t = some (.slice e) := (hte _ _ hti).kind
      exact opok_quiet hr (rv := .int .i64 n) (by simp [execOp, ho, resolve, invoke, builtin, Builtin.len_, Go.run_underlying hu, hv, goInt]) ⟨rfl, rfl⟩
    · rename_i _ _ e _ _ n cells hti hev
      injection h with h; cases h
      rw [hev] at hxy
      simp only [CA, CS] at hxy
      obtain ⟨ad, c, cb, co, hv, _⟩ := hxy
      have hu : P.underlying t = some (.slice e) := (hte _ _ hti).kind
      exact opok_quiet hr (rv := .int .i64 n) (by simp [execOp, ho, resolve, invoke, builtin, Builtin.len_, Go.run_underlying hu, hv, goInt]) ⟨rfl, rfl⟩
    · rename_i _ _ e _ _ hti hev
      injection h with h; cases h
      rw [hev] at hxy
      simp only [CA, CS] at hxy
      obtain ⟨ad, c, hv⟩ := hxy
      have hu : P.underlying t = some (.slice e) := (hte _ _ hti).kind
      exact opok_quiet hr (rv := .int .i64 0) (by simp [execOp, ho, resolve, invoke, builtin, Builtin.len_, Go.run_underlying hu, hv, goInt]) ⟨rfl, rfl⟩
    · cases h
  · -- cap
    rename_i x t hargs
    obtain ⟨y, rfl, rfl⟩ : ∃ y, args = [y] ∧ ev σ y = x := by
      cases args with
      | nil => simp at hargs
      | cons y ys => cases ys <;> simp at hargs; exact ⟨y, rfl, hargs⟩
    have hxy := hx y (by simp)
    split at h
    · rename_i _ _ e _ _ hti hev
      injection h with h; cases h
      rw [hev] at hxy
      obtain ⟨hv, _⟩ := hxy
      have hu : P.underlying t = some (.slice e) := (hte _ _ hti).kind
      exact opok_quiet hr (rv := .int .i64 0) (by simp [execOp, ho, resolve, invoke, builtin, Builtin.cap_, Go.run_underlying hu, hv, goInt]) ⟨rfl, rfl⟩
    · cases h
  · -- append
    rename_i s x st xt hargs
    obtain ⟨y, z, rfl, rfl, rfl⟩ : ∃ y z, args = [y, z] ∧ ev σ y = s ∧ ev σ z = x := by
      cases args with
      | nil => simp at hargs
      | cons y ys => cases ys with
        | nil => simp at hargs
        | cons z zs => cases zs <;> simp at hargs; exact ⟨y, z, rfl, hargs.1, hargs.2⟩
    obtain ⟨rv, w', ρ', h1, h2, h3, h4⟩ := aappendX_ok hte hr (ty := o.type) (hx y (by simp)) (hx z (by simp)) h
    exact ⟨.value rv, w', ρ', by simp [execOp, ho, resolve, invoke, builtin, h1], .inl ⟨rv, rfl, h2⟩, h3, h4⟩
  · -- max
    rename_i k x k' y hargs
    obtain ⟨u, v, rfl, hu, hv⟩ : ∃ u v, args = [u, v] ∧ ev σ u = .s (.raw (.int k x)) ∧ ev σ v = .s (.raw (.int k' y)) := by
      cases args with
      | nil => simp at hargs
      | cons u us => cases us with
        | nil => simp at hargs
        | cons v vs => cases vs <;> simp at hargs; exact ⟨u, v, rfl, hargs.1, hargs.2⟩
    injection h with h; cases h
    have h1 := hx u (by simp); have h2 := hx v (by simp)
    rw [hu] at h1; rw [hv] at h2
    exact opok_quiet hr (rv := .int k (if y > x then y else x)) (by simp [execOp, ho, resolve, invoke, builtin, h1.1, h2.1, run_max_int2]) ⟨rfl, rfl⟩
  · -- min
    rename_i k x k' y hargs
    obtain ⟨u, v, rfl, hu, hv⟩ : ∃ u v, args = [u, v] ∧ ev σ u = .s (.raw (.int k x)) ∧ ev σ v = .s (.raw (.int k' y)) := by
      cases args with
      | nil => simp at hargs
      | cons u us => cases us with
        | nil => simp at hargs
        | cons v vs => cases vs <;> simp at hargs; exact ⟨u, v, rfl, hargs.1, hargs.2⟩
    injection h with h; cases h
    have h1 := hx u (by simp); have h2 := hx v (by simp)
    rw [hu] at h1; rw [hv] at h2
    exact opok_quiet hr (rv := .int k (if y < x then y else x)) (by simp [execOp, ho, resolve, invoke, builtin, h1.1, h2.1, run_min_int2]) ⟨rfl, rfl⟩
  · cases h

/-- **Whatever operation the evaluator takes, the machine does it.** -/
theorem aop_ok (hte : TEok P te) (hr : Rel B ρ H w) {o : Oper} (hx : ∀ x ∈ o.op.operands.toList, CA ρ (ev σ x) (a.eval x)) (h : aop te σ H o.op = some (r, H')) : OpOk P B ρ H w a o r H' := by
  have h0 := h
  cases ho : o.op with
  | move x =>
    rw [ho] at h hx; simp only [aop] at h; injection h with h; cases h
    exact opok_quiet hr (by simp [execOp, ho]) (hx x (by simp [Op.operands]))
  | assign x =>
    rw [ho] at h hx; simp only [aop] at h; injection h with h; cases h
    exact opok_quiet hr (by simp [execOp, ho]) (hx x (by simp [Op.operands]))
  | pick c x y =>
    rw [ho] at h hx; simp only [aop] at h
    split at h
    · rename_i t he
      injection h with h; cases h
      have hc := hx c (by simp [Op.operands])
      rw [he] at hc
      have hxx := hx x (by simp [Op.operands]); have hyy := hx y (by simp [Op.operands])
      cases t
      · exact opok_quiet hr (by simp [execOp, ho, hc.1, asBool]) hyy
      · exact opok_quiet hr (by simp [execOp, ho, hc.1, asBool]) hxx
    · cases h
  | alloc t => exact ok_alloc hte hr ho h0
  | box t x => rw [ho] at hx; exact ok_box hr ho (hx x (by simp [Op.operands])) h0
  | build t ps => rw [ho] at hx; exact ok_build hte hr ho (fun p hp => hx p.2 (by simp [Op.operands]; exact ⟨p.1, by simpa using hp⟩)) h0
  | buildSlice t n ps => rw [ho] at hx; exact ok_buildSlice hte hr ho (fun p hp => hx p.2 (by simp [Op.operands]; exact ⟨p.1, by simpa using hp⟩)) h0
  | load t x => rw [ho] at hx; exact ok_load hte hr ho (hx x (by simp [Op.operands])) h0
  | store t x y => rw [ho] at hx; exact ok_store hte hr ho (hx x (by simp [Op.operands])) (hx y (by simp [Op.operands])) h0
  | nilCheck x =>
    rw [ho] at h hx; simp only [aop] at h
    split at h
    · rename_i b off he
      split at h
      · rename_i blk hb
        injection h with h; cases h
        have hxx := hx x (by simp [Op.operands])
        rw [he] at hxx
        obtain ⟨cb, co, cc, hat, hv⟩ := ptr_at hr hxx hb
        exact opok_quiet hr (rv := .pointer (some ⟨cb, co + off, none⟩)) (by simp [execOp, ho, hv]) (by simp [CA, CS, PC, hat])
      · cases h
    · rename_i cells he
      injection h with h; cases h
      have hxx := hx x (by simp [Op.operands])
      rw [he] at hxx
      have hxx' := hxx
      simp only [CA, CS] at hxx'
      obtain ⟨cb, co, hv, hm⟩ := hxx'
      exact opok_quiet hr (rv := .pointer (some ⟨cb, co, none⟩)) (by simp [execOp, ho, hv]) (by rw [← hv]; exact hxx)
    · cases h
  | binOp op t x y t' =>
    rw [ho] at h hx; simp only [aop] at h
    rw [Option.map_eq_some_iff] at h
    obtain ⟨r', h1, h2⟩ := h
    cases h2
    obtain ⟨v, h3, h4⟩ := abin_ok (x := x) (y := y) hte hr (hx x (by simp [Op.operands])) (hx y (by simp [Op.operands])) h1
    exact opok_quiet hr (by simp only [execOp, ho, Sem.run_bind]; rw [← Sem.run_bind, h3]; rfl) h4
  | unOp op t x =>
    rw [ho] at h hx; simp only [aop] at h
    have hxx := hx x (by simp [Op.operands])
    split at h
    · rename_i b he
      injection h with h; cases h
      rw [he] at hxx
      exact opok_quiet hr (rv := .bool (!b)) (by simp [execOp, ho, hxx.1, Op.unary]) ⟨rfl, rfl⟩
    · rename_i k n he
      injection h with h; cases h
      rw [he] at hxx
      exact opok_quiet hr (rv := .int k (k.wrap (0 - n))) (by simp [execOp, ho, hxx.1, Op.unary, Op.intArith]) ⟨rfl, rfl⟩
    · cases h
  | convert src dst x =>
    rw [ho] at h hx; simp only [aop] at h
    have hxx := hx x (by simp [Op.operands])
    split at h
    · rename_i ts _ _ k _ _ k' n hts htd he
      injection h with h; cases h
      rw [he] at hxx
      have hud : P.underlying dst = some (.int k) := (hte _ _ htd).kind
      have hus : ∃ d, P.underlying src = some d := by
        have := (hte _ _ hts).kind
        revert this
        cases ts.kind <;> intro this
        · obtain ⟨f, h1, _⟩ := this; exact ⟨_, h1⟩
        · exact ⟨_, this⟩
        · exact ⟨_, this⟩
        · exact ⟨_, this⟩
        · exact ⟨_, this⟩
        · obtain ⟨d, h1, _⟩ := this; exact ⟨_, h1⟩
      obtain ⟨d, hd⟩ := hus
      exact opok_quiet hr (rv := .int k (k.wrap n)) (by simp [execOp, ho, hxx.1, convert, Go.run_underlying hud, Go.run_underlying hd, Conv.intToInt]) ⟨rfl, rfl⟩
    · cases h
  | makeFunc fn first captured =>
    rw [ho] at h hx
    cases fn with
    | func f =>
      simp only [aop] at h
      split at h
      · rename_i h0'
        rw [Option.map_eq_some_iff] at h
        obtain ⟨ps, h1, h2⟩ := h
        cases h2
        have hp := ptrs_ok h1 (fun x hx' => hx x (by simp [Op.operands]; exact .inr (by simpa using hx')))
        have hf : first = #[] := Array.eq_empty_of_size_eq_zero h0'
        refine opok_quiet hr (rv := .func (.func f) #[] (captured.toList.map a.eval).toArray) ?_ ⟨_, hp, rfl⟩
        simp [execOp, ho, Instr.makeFunc, hf]
        apply Array.ext'; simp
      · cases h
    | _ => simp [aop] at h
  | slice t x lo hi mx =>
    cases mx with
    | none => rw [ho] at hx; exact ok_slice hte hr ho (hx x (by simp [Op.operands])) (fun y hy => hx y (by subst hy; simp [Op.operands])) (fun y hy => hx y (by subst hy; simp [Op.operands])) h0
    | some m => rw [ho] at h; simp [aop] at h
  | fieldAddr s x f => rw [ho] at hx; exact ok_fieldAddr hte hr ho (hx x (by simp [Op.operands])) h0
  | indexAddr t x ix => rw [ho] at hx; exact ok_indexAddr hte hr ho (hx x (by simp [Op.operands])) (hx ix (by simp [Op.operands])) h0
  | extract x i =>
    rw [ho] at h hx; simp only [aop] at h
    have hxx := hx x (by simp [Op.operands])
    split at h
    · rename_i cs he
      rw [Option.map_eq_some_iff] at h
      obtain ⟨c, h1, h2⟩ := h
      cases h2
      rw [he] at hxx
      obtain ⟨vs, h3, h4⟩ := hxx
      obtain ⟨v, h5, h6⟩ := h3.get h1
      exact opok_quiet hr (rv := v) (by simp [execOp, ho, h4, Instr.extract, h5]) h6.av
    · cases h
  | call c =>
    obtain ⟨callee, args, ts⟩ := c
    cases callee with
    | builtin b => rw [ho] at hx; exact ok_builtin hte hr ho (fun x hx' => hx x (by simp [Op.operands, Call.operands]; simpa using hx')) h0
    | value f => rw [ho] at h; simp [aop] at h
    | invoke r m => rw [ho] at h; simp [aop] at h
  | _ => rw [ho] at h; simp [aop] at h

end

end Go.Abs
