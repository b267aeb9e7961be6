/-
  Arguments that read as data are abstract values. (Printed by entry.py.)
-/
import Derived.Test.YtcgogenmikakkaaP2
import Derived.Test.YtcgogenmikakkaaTe
import Derived.Deep.Slices
import Derived.Deep.Fields
import Derived.ChangeSame
import Derived.OpenShut
import Derived.WideShapes
namespace Go.Abs
set_option linter.unusedVariables false
set_option linter.unusedSimpArgs false
open Go.Proofs Go.ChangeShapes Go.WideShapes Go.Deep Go.RowKit
set_option maxRecDepth 100000

/-- a number that fits into 64 bits -/
def ok64 (n : Int) : Prop := -9223372036854775808 ≤ n ∧ n < 9223372036854775808
theorem ok64_of {n : Int} (h : (Lit.int .i64 n).wf = true) : ok64 n := by
  have := bounds_i64 h
  unfold ok64
  omega
/-- memory as it is when the call begins: nothing of it is ours -/
def env0 (w : World) : Env := { loc := fun _ => .absent, mem := fun cb j => w.cell? ⟨cb, j, none⟩ }
def heap0 : Heap := { m := fun _ => none, n := 0 }
theorem rel0 (w : World) : Rel w.heap.size (env0 w) heap0 w :=
  ⟨⟨Nat.le_refl _, fun _ _ => rfl, (fun _ _ h => nomatch h), (fun _ _ _ _ _ h => nomatch h), (fun _ _ _ _ _ _ _ _ _ _ h => nomatch h)⟩, fun cb j v h => ⟨h, (fun ⟨_, _, _, _, h, _⟩ => nomatch h)⟩⟩
/-- a law's call, out of its contract -/
theorem calls0 {P : Program} {f : FuncId} {args : List Cmp} {cargs : List Value} {w : World} (h : ACalls P f args heap0 (.s (Bo true)) heap0) (ha : Al2 (CC (env0 w)) args cargs) : Calls P f cargs.toArray w fun e w' => e = .returned (.bool true) ∧ Below w.heap.size w w' := by
  refine (h.2 _ _ w cargs (rel0 w) ha).mono ?_
  rintro e w' ⟨rv, ρ', r, H', rfl, h1, h2, h3, rfl, rfl⟩
  simp only [CA, CS] at h1
  obtain ⟨rfl, _⟩ := h1
  exact ⟨rfl, h3.below (rel0 w)⟩
section
variable {H : Type} {enc : TypeId × Value → H} {w : World} {base : Nat} {spare : Nat → Bool} {held : Bool} {fuel : Nat} {cs : List Value} {x : DataW H × List MemPlace}
theorem some_of {α : Type} {l : List α} {i : Nat} (h : i < l.length) : ∃ y, l[i]? = some y := ⟨_, List.getElem?_eq_getElem h⟩
theorem c_int64 : Try.prog.cellsOf 2 = 1 := by kernel_rfl
theorem c_int : Try.prog.cellsOf 3 = 1 := by kernel_rfl
theorem c_bool : Try.prog.cellsOf 4 = 1 := by kernel_rfl
def Ar.ok (a : Ar) : Prop := ok64 a.s ∧ ok64 a.e ∧ ok64 a.p ∧ ok64 a.b ∧ ok64 a.o
theorem c_ar : Try.prog.cellsOf 40 = 6 := by kernel_rfl
theorem trod_ar (h : DataW.trod enc Try.prog w base spare held fuel 40 cs = some x) : ∃ a : Ar, cs = a.v ∧ a.ok := by
  obtain ⟨xs, n, -, -, hl, hx, hf⟩ := DataW.trod_struct Try.underlying40 h
  rw [c_ar] at hl
  have hx : xs.length = 6 := hx
  match cs, hl with
  | [c0, c1, c2, c3, c4, c5], _ =>
    obtain ⟨y0, e0⟩ := some_of (l := xs) (i := 0) (by omega)
    have h0 : DataW.trod enc Try.prog w base spare held n 2 (([c0, c1, c2, c3, c4, c5].drop 0).take (Try.prog.cellsOf 2)) = some y0 := (hf 0 _ rfl).trans e0
    simp only [c_int64, c_int, c_bool, List.drop_zero, List.drop_succ_cons, List.take_succ_cons, List.take_zero] at h0
    obtain ⟨n0, hc0, -, w0⟩ := DataW.trod_int Try.underlying2 h0
    injection hc0 with hc0
    obtain ⟨y1, e1⟩ := some_of (l := xs) (i := 1) (by omega)
    have h1 : DataW.trod enc Try.prog w base spare held n 2 (([c0, c1, c2, c3, c4, c5].drop 1).take (Try.prog.cellsOf 2)) = some y1 := (hf 1 _ rfl).trans e1
    simp only [c_int64, c_int, c_bool, List.drop_zero, List.drop_succ_cons, List.take_succ_cons, List.take_zero] at h1
    obtain ⟨n1, hc1, -, w1⟩ := DataW.trod_int Try.underlying2 h1
    injection hc1 with hc1
    obtain ⟨y2, e2⟩ := some_of (l := xs) (i := 2) (by omega)
    have h2 : DataW.trod enc Try.prog w base spare held n 3 (([c0, c1, c2, c3, c4, c5].drop 2).take (Try.prog.cellsOf 3)) = some y2 := (hf 2 _ rfl).trans e2
    simp only [c_int64, c_int, c_bool, List.drop_zero, List.drop_succ_cons, List.take_succ_cons, List.take_zero] at h2
    obtain ⟨n2, hc2, -, w2⟩ := DataW.trod_int Try.underlying3 h2
    injection hc2 with hc2
    obtain ⟨y3, e3⟩ := some_of (l := xs) (i := 3) (by omega)
    have h3 : DataW.trod enc Try.prog w base spare held n 4 (([c0, c1, c2, c3, c4, c5].drop 3).take (Try.prog.cellsOf 4)) = some y3 := (hf 3 _ rfl).trans e3
    simp only [c_int64, c_int, c_bool, List.drop_zero, List.drop_succ_cons, List.take_succ_cons, List.take_zero] at h3
    obtain ⟨n3, hc3, -⟩ := DataW.trod_bool Try.underlying4 h3
    injection hc3 with hc3
    obtain ⟨y4, e4⟩ := some_of (l := xs) (i := 4) (by omega)
    have h4 : DataW.trod enc Try.prog w base spare held n 3 (([c0, c1, c2, c3, c4, c5].drop 4).take (Try.prog.cellsOf 3)) = some y4 := (hf 4 _ rfl).trans e4
    simp only [c_int64, c_int, c_bool, List.drop_zero, List.drop_succ_cons, List.take_succ_cons, List.take_zero] at h4
    obtain ⟨n4, hc4, -, w4⟩ := DataW.trod_int Try.underlying3 h4
    injection hc4 with hc4
    obtain ⟨y5, e5⟩ := some_of (l := xs) (i := 5) (by omega)
    have h5 : DataW.trod enc Try.prog w base spare held n 2 (([c0, c1, c2, c3, c4, c5].drop 5).take (Try.prog.cellsOf 2)) = some y5 := (hf 5 _ rfl).trans e5
    simp only [c_int64, c_int, c_bool, List.drop_zero, List.drop_succ_cons, List.take_succ_cons, List.take_zero] at h5
    obtain ⟨n5, hc5, -, w5⟩ := DataW.trod_int Try.underlying2 h5
    injection hc5 with hc5
    exact ⟨⟨n0, n1, n2, n3, n4, n5⟩, by rw [hc0, hc1, hc2, hc3, hc4, hc5]; rfl, ok64_of w0, ok64_of w1, ok64_of w2, ok64_of w4, ok64_of w5⟩
theorem ar_vals (a : Ar) : a.c = a.v.map SV.raw := rfl
def Ca.ok (a : Ca) : Prop := ok64 a.k ∧ ok64 a.a ∧ ok64 a.l ∧ ok64 a.n ∧ ok64 a.t ∧ ok64 a.p ∧ ok64 a.f ∧ ok64 a.b ∧ ok64 a.o
theorem c_ca : Try.prog.cellsOf 34 = 9 := by kernel_rfl
theorem trod_ca (h : DataW.trod enc Try.prog w base spare held fuel 34 cs = some x) : ∃ a : Ca, cs = a.v ∧ a.ok := by
  obtain ⟨xs, n, -, -, hl, hx, hf⟩ := DataW.trod_struct Try.underlying34 h
  rw [c_ca] at hl
  have hx : xs.length = 9 := hx
  match cs, hl with
  | [c0, c1, c2, c3, c4, c5, c6, c7, c8], _ =>
    obtain ⟨y0, e0⟩ := some_of (l := xs) (i := 0) (by omega)
    have h0 : DataW.trod enc Try.prog w base spare held n 3 (([c0, c1, c2, c3, c4, c5, c6, c7, c8].drop 0).take (Try.prog.cellsOf 3)) = some y0 := (hf 0 _ rfl).trans e0
    simp only [c_int64, c_int, c_bool, List.drop_zero, List.drop_succ_cons, List.take_succ_cons, List.take_zero] at h0
    obtain ⟨n0, hc0, -, w0⟩ := DataW.trod_int Try.underlying3 h0
    injection hc0 with hc0
    obtain ⟨y1, e1⟩ := some_of (l := xs) (i := 1) (by omega)
    have h1 : DataW.trod enc Try.prog w base spare held n 2 (([c0, c1, c2, c3, c4, c5, c6, c7, c8].drop 1).take (Try.prog.cellsOf 2)) = some y1 := (hf 1 _ rfl).trans e1
    simp only [c_int64, c_int, c_bool, List.drop_zero, List.drop_succ_cons, List.take_succ_cons, List.take_zero] at h1
    obtain ⟨n1, hc1, -, w1⟩ := DataW.trod_int Try.underlying2 h1
    injection hc1 with hc1
    obtain ⟨y2, e2⟩ := some_of (l := xs) (i := 2) (by omega)
    have h2 : DataW.trod enc Try.prog w base spare held n 2 (([c0, c1, c2, c3, c4, c5, c6, c7, c8].drop 2).take (Try.prog.cellsOf 2)) = some y2 := (hf 2 _ rfl).trans e2
    simp only [c_int64, c_int, c_bool, List.drop_zero, List.drop_succ_cons, List.take_succ_cons, List.take_zero] at h2
    obtain ⟨n2, hc2, -, w2⟩ := DataW.trod_int Try.underlying2 h2
    injection hc2 with hc2
    obtain ⟨y3, e3⟩ := some_of (l := xs) (i := 3) (by omega)
    have h3 : DataW.trod enc Try.prog w base spare held n 2 (([c0, c1, c2, c3, c4, c5, c6, c7, c8].drop 3).take (Try.prog.cellsOf 2)) = some y3 := (hf 3 _ rfl).trans e3
    simp only [c_int64, c_int, c_bool, List.drop_zero, List.drop_succ_cons, List.take_succ_cons, List.take_zero] at h3
    obtain ⟨n3, hc3, -, w3⟩ := DataW.trod_int Try.underlying2 h3
    injection hc3 with hc3
    obtain ⟨y4, e4⟩ := some_of (l := xs) (i := 4) (by omega)
    have h4 : DataW.trod enc Try.prog w base spare held n 2 (([c0, c1, c2, c3, c4, c5, c6, c7, c8].drop 4).take (Try.prog.cellsOf 2)) = some y4 := (hf 4 _ rfl).trans e4
    simp only [c_int64, c_int, c_bool, List.drop_zero, List.drop_succ_cons, List.take_succ_cons, List.take_zero] at h4
    obtain ⟨n4, hc4, -, w4⟩ := DataW.trod_int Try.underlying2 h4
    injection hc4 with hc4
    obtain ⟨y5, e5⟩ := some_of (l := xs) (i := 5) (by omega)
    have h5 : DataW.trod enc Try.prog w base spare held n 3 (([c0, c1, c2, c3, c4, c5, c6, c7, c8].drop 5).take (Try.prog.cellsOf 3)) = some y5 := (hf 5 _ rfl).trans e5
    simp only [c_int64, c_int, c_bool, List.drop_zero, List.drop_succ_cons, List.take_succ_cons, List.take_zero] at h5
    obtain ⟨n5, hc5, -, w5⟩ := DataW.trod_int Try.underlying3 h5
    injection hc5 with hc5
    obtain ⟨y6, e6⟩ := some_of (l := xs) (i := 6) (by omega)
    have h6 : DataW.trod enc Try.prog w base spare held n 3 (([c0, c1, c2, c3, c4, c5, c6, c7, c8].drop 6).take (Try.prog.cellsOf 3)) = some y6 := (hf 6 _ rfl).trans e6
    simp only [c_int64, c_int, c_bool, List.drop_zero, List.drop_succ_cons, List.take_succ_cons, List.take_zero] at h6
    obtain ⟨n6, hc6, -, w6⟩ := DataW.trod_int Try.underlying3 h6
    injection hc6 with hc6
    obtain ⟨y7, e7⟩ := some_of (l := xs) (i := 7) (by omega)
    have h7 : DataW.trod enc Try.prog w base spare held n 3 (([c0, c1, c2, c3, c4, c5, c6, c7, c8].drop 7).take (Try.prog.cellsOf 3)) = some y7 := (hf 7 _ rfl).trans e7
    simp only [c_int64, c_int, c_bool, List.drop_zero, List.drop_succ_cons, List.take_succ_cons, List.take_zero] at h7
    obtain ⟨n7, hc7, -, w7⟩ := DataW.trod_int Try.underlying3 h7
    injection hc7 with hc7
    obtain ⟨y8, e8⟩ := some_of (l := xs) (i := 8) (by omega)
    have h8 : DataW.trod enc Try.prog w base spare held n 2 (([c0, c1, c2, c3, c4, c5, c6, c7, c8].drop 8).take (Try.prog.cellsOf 2)) = some y8 := (hf 8 _ rfl).trans e8
    simp only [c_int64, c_int, c_bool, List.drop_zero, List.drop_succ_cons, List.take_succ_cons, List.take_zero] at h8
    obtain ⟨n8, hc8, -, w8⟩ := DataW.trod_int Try.underlying2 h8
    injection hc8 with hc8
    exact ⟨⟨n0, n1, n2, n3, n4, n5, n6, n7, n8⟩, by rw [hc0, hc1, hc2, hc3, hc4, hc5, hc6, hc7, hc8]; rfl, ok64_of w0, ok64_of w1, ok64_of w2, ok64_of w3, ok64_of w4, ok64_of w5, ok64_of w6, ok64_of w7, ok64_of w8⟩
theorem ca_vals (a : Ca) : a.c = a.v.map SV.raw := rfl
theorem al_raw {ρ : Env} : ∀ (vs : List Value), (∀ v ∈ vs, scal v = true) → Al2 (CS ρ) (vs.map SV.raw) vs
  | [], _ => trivial
  | v :: vs, h => ⟨by simp only [CS]; exact ⟨trivial, h v (by simp)⟩, al_raw vs fun u hu => h u (by simp [hu])⟩
theorem ms_raw {cb co : Nat} : ∀ (vs : List Value), (∀ v ∈ vs, scal v = true) → (∀ j v, vs[j]? = some v → w.cell? ⟨cb, co + j, none⟩ = some v) → MS (env0 w) cb co (vs.map SV.raw) := fun vs hs h => MS_of fun j sv hj => by
  rw [List.getElem?_map, Option.map_eq_some_iff] at hj
  obtain ⟨v, h1, rfl⟩ := hj
  exact ⟨v, h j v h1, by simp only [CS]; exact ⟨trivial, hs v (List.mem_of_getElem? h1)⟩, rfl⟩
theorem ar_scal (a : Ar) : ∀ v ∈ a.v, scal v = true := by intro v hv; simp only [Ar.v, List.mem_cons, List.not_mem_nil, or_false] at hv; rcases hv with h | h | h | h | h | h <;> subst h <;> rfl
theorem ca_scal (a : Ca) : ∀ v ∈ a.v, scal v = true := by intro v hv; simp only [Ca.v, List.mem_cons, List.not_mem_nil, or_false] at hv; rcases hv with h | h | h | h | h | h | h | h | h <;> subst h <;> rfl
theorem fl_vals (l : List Ar) : FL Ar.c l = (l.flatMap Ar.v).map SV.raw := by
  induction l with
  | nil => rfl
  | cons a l ih => rw [FL_cons, List.flatMap_cons, List.map_append, ih]; rfl
/-- an argument that is a list of areas -/
theorem open_areas {v : Value} {d : DataW H} {p : List MemPlace} {r : Reach} {b0 : Nat} (hv : Value.okWide Try.prog w r b0 22 v) (h : DataW.Trod enc Try.prog w base spare held 22 v d p) : ∃ l : List Ar, CC (env0 w) (.s (LV Ar.c l)) v ∧ ∀ a ∈ l, a.ok := by
  obtain ⟨va, vl, vc, rfl⟩ := okWide_slice Try.underlying22 hv
  obtain ⟨fuel, hf⟩ := h
  rcases open_slice Try.underlying22 hf with ⟨h1, -⟩ | ⟨a, len', cap', m, n, D, Pl, h1, hb, hl, hm, hmm, -, hi⟩
  · simp only [Value.cells, List.cons.injEq, Value.slice.injEq, and_true] at h1
    obtain ⟨rfl, rfl, rfl⟩ := h1
    exact ⟨[], by simp only [CC, CS]; exact ⟨none, 0, 0, 0, rfl, Nat.le_refl _, fun h => absurd rfl h, fun _ => rfl, by simp only [FL_nil, MS]⟩, by simp⟩
  · simp only [Value.cells, List.cons.injEq, Value.slice.injEq, and_true] at h1
    obtain ⟨rfl, rfl, rfl⟩ := h1
    have hlm : vl ≤ m := by rw [hmm]; split <;> omega
    rw [c_ar] at hi
    have key : ∀ i, i < vl → ∃ x : Ar, x.ok ∧ ∀ j u, x.v[j]? = some u → w.cell? (a.add (i * 6 + j)) = some u := by
      intro i hil
      obtain ⟨cs', hc, ht⟩ := hi i (by omega)
      obtain ⟨_, hcl, hat⟩ := World.cells?_some hc
      obtain ⟨x, rfl, hok⟩ := trod_ar ht
      refine ⟨x, hok, fun j u hj => ?_⟩
      have hj6 : j < 6 := (List.getElem?_eq_some_iff.1 hj).1
      rw [← Go.Deep.add_add, hat j hj6, hj]
    have hex : ∀ k, k ≤ vl → ∃ l : List Ar, l.length = k ∧ (∀ x ∈ l, x.ok) ∧ ∀ j u, (l.flatMap Ar.v)[j]? = some u → w.cell? (a.add j) = some u := by
      intro k
      induction k with
      | zero => intro _; exact ⟨[], rfl, by simp, by simp⟩
      | succ k ih =>
        intro hk
        obtain ⟨l, h1, h2, h3⟩ := ih (by omega)
        obtain ⟨x, h4, h5⟩ := key k (by omega)
        have hfl : (l.flatMap Ar.v).length = k * 6 := by
          have : ∀ l : List Ar, (l.flatMap Ar.v).length = l.length * 6 := by
            intro l
            induction l with
            | nil => rfl
            | cons a l ih => rw [List.flatMap_cons, List.length_append, ih, List.length_cons]; show 6 + _ = _; omega
          rw [this, h1]
        refine ⟨l ++ [x], by simp [h1], fun y hy => ?_, fun j u hj => ?_⟩
        · rcases List.mem_append.1 hy with hy | hy
          · exact h2 y hy
          · simp at hy; subst hy; exact h4
        · rw [List.flatMap_append, List.flatMap_cons, List.flatMap_nil, List.append_nil] at hj
          rcases Nat.lt_or_ge j (k * 6) with hlt | hge
          · rw [List.getElem?_append_left (by omega)] at hj; exact h3 j u hj
          · rw [List.getElem?_append_right (by omega), hfl] at hj
            have := h5 _ u hj
            rwa [show k * 6 + (j - k * 6) = j by omega] at this
    obtain ⟨l, h1, h2, h3⟩ := hex vl (Nat.le_refl _)
    refine ⟨l, ?_, h2⟩
    obtain ⟨ab, ao, asp⟩ := a
    cases l with
    | nil =>
      simp only [CC, CS]
      exact ⟨some ⟨ab, ao, asp⟩, vc, ab, ao, by rw [h1], by omega, fun hne => absurd rfl hne, (fun h => nomatch h), by simp only [FL_nil, MS]⟩
    | cons x l =>
      obtain rfl : asp = none := by
        have := h3 0 (.int .i64 x.s) rfl
        cases asp with
        | none => rfl
        | some q =>
          simp only [World.cell?, Addr.add] at this
          split at this <;> simp at this
      simp only [CC, CS]
      refine ⟨some ⟨ab, ao, none⟩, vc, ab, ao, by rw [h1], by omega, fun hne => rfl, (fun h => nomatch h), ?_⟩
      rw [fl_vals]
      refine ms_raw _ (fun v hv => ?_) fun j u hj => ?_
      · obtain ⟨x, _, hx⟩ := List.mem_flatMap.1 hv; exact ar_scal x v hx
      · have := h3 j u hj
        rw [Addr.add_lit] at this; exact this
theorem okWide_arr {P : Program} {t : TypeId} {r : Reach} {b0 n : Nat} {e : TypeId} {v : Value} (ht : P.underlying t = some (.array n e)) (h : Value.okWide P w r b0 t v) : ∃ cs, v = .agg cs ∧ cs.size = P.cellsOf t := by
  simp only [Value.okWide, ht] at h
  obtain ⟨cs, h1, h2, _⟩ := h
  exact ⟨cs, h1, h2⟩
/-- an argument that is a call -/
theorem open_call {v : Value} {d : DataW H} {p : List MemPlace} {r : Reach} {b0 : Nat} (hv : Value.okWide Try.prog w r b0 34 v) (h : DataW.Trod enc Try.prog w base spare held 34 v d p) : ∃ c : Ca, CC (env0 w) (.agg c.c) v ∧ c.ok := by
  obtain ⟨cs, rfl, hsz⟩ := okWide_struct Try.underlying34 hv
  obtain ⟨fuel, hf⟩ := h
  obtain ⟨c, hc, hok⟩ := trod_ca hf
  have hc : cs.toList = c.v := hc
  refine ⟨c, ⟨c.v, ?_, by rw [← hc]⟩, hok⟩
  rw [ca_vals]; exact al_raw _ (ca_scal c)
theorem open_u8 {v : Value} {d : DataW H} {p : List MemPlace} {r : Reach} {b0 : Nat} (hv : Value.okWide Try.prog w r b0 5 v) (h : DataW.Trod enc Try.prog w base spare held 5 v d p) : ∃ n : Int, CC (env0 w) (.s (.raw (.int .u8 n))) v ∧ 0 ≤ n ∧ n < 256 := by
  obtain ⟨n, rfl, -, -, hw⟩ := open_int Try.underlying5 hv h
  refine ⟨n, by simp only [CC, CS]; exact ⟨trivial, rfl⟩, ?_⟩
  have := bounds_u8 hw
  omega
theorem open_arr4 {v : Value} {d : DataW H} {p : List MemPlace} {r : Reach} {b0 : Nat} (hv : Value.okWide Try.prog w r b0 23 v) (h : DataW.Trod enc Try.prog w base spare held 23 v d p) :
    ∃ b : Int × Int × Int × Int, CC (env0 w) (.agg [.raw (.int .u8 b.1), .raw (.int .u8 b.2.1), .raw (.int .u8 b.2.2.1), .raw (.int .u8 b.2.2.2)]) v ∧ (0 ≤ b.1 ∧ b.1 < 256) ∧ (0 ≤ b.2.1 ∧ b.2.1 < 256) ∧ (0 ≤ b.2.2.1 ∧ b.2.2.1 < 256) ∧ (0 ≤ b.2.2.2 ∧ b.2.2.2 < 256) := by
  obtain ⟨cs, rfl, hsz⟩ := okWide_arr Try.underlying23 hv
  obtain ⟨fuel, hf⟩ := h
  obtain ⟨xs, m, -, -, hl, hx, hg⟩ := DataW.trod_array Try.underlying23 hf
  have hC : Try.prog.cellsOf 23 = 4 := by kernel_rfl
  have hc : Try.prog.cellsOf 5 = 1 := by kernel_rfl
  rw [hC] at hl
  rw [hc] at hg
  have hl : cs.toList.length = 4 := hl
  obtain ⟨l⟩ := cs
  simp only [Value.cells] at hg hl
  match l, hl with
  | [c0, c1, c2, c3], _ =>
    obtain ⟨y0, e0⟩ := some_of (l := xs) (i := 0) (by omega)
    obtain ⟨y1, e1⟩ := some_of (l := xs) (i := 1) (by omega)
    obtain ⟨y2, e2⟩ := some_of (l := xs) (i := 2) (by omega)
    obtain ⟨y3, e3⟩ := some_of (l := xs) (i := 3) (by omega)
    obtain ⟨n0, h0, -, w0⟩ := DataW.trod_int Try.underlying5 ((hg 0 (by omega)).trans e0)
    obtain ⟨n1, h1, -, w1⟩ := DataW.trod_int Try.underlying5 ((hg 1 (by omega)).trans e1)
    obtain ⟨n2, h2, -, w2⟩ := DataW.trod_int Try.underlying5 ((hg 2 (by omega)).trans e2)
    obtain ⟨n3, h3, -, w3⟩ := DataW.trod_int Try.underlying5 ((hg 3 (by omega)).trans e3)
    injection h0 with h0; injection h1 with h1; injection h2 with h2; injection h3 with h3
    have b0 := bounds_u8 w0; have b1 := bounds_u8 w1; have b2 := bounds_u8 w2; have b3 := bounds_u8 w3
    subst h0 h1 h2 h3
    exact ⟨(n0, n1, n2, n3), ⟨[.int .u8 n0, .int .u8 n1, .int .u8 n2, .int .u8 n3], al_raw [.int .u8 n0, .int .u8 n1, .int .u8 n2, .int .u8 n3] (by simp [scal]), rfl⟩, (by show 0 ≤ n0 ∧ n0 < 256; omega), (by show 0 ≤ n1 ∧ n1 < 256; omega), (by show 0 ≤ n2 ∧ n2 < 256; omega), (by show 0 ≤ n3 ∧ n3 < 256; omega)⟩
theorem open_i64 {v : Value} {d : DataW H} {p : List MemPlace} {r : Reach} {b0 : Nat} (hv : Value.okWide Try.prog w r b0 3 v) (h : DataW.Trod enc Try.prog w base spare held 3 v d p) : ∃ n : Int, CC (env0 w) (.s (I n)) v ∧ ok64 n := by
  obtain ⟨n, rfl, -, -, hw⟩ := open_int Try.underlying3 hv h
  exact ⟨n, by simp only [CC, CS]; exact ⟨trivial, rfl⟩, ok64_of hw⟩
end
end Go.Abs
