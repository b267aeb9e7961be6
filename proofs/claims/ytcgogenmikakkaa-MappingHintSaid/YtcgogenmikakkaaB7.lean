/-
  Joined texts: Y1 Y2 Y3 Y4 G1 G2 G3.
-/
import Derived.Test.YtcgogenmikakkaaB2
import Derived.RangeFuncOwn
import Derived.RangeFuncLeaves
import Derived.Test.YtcgogenmikakkaaB3
import Derived.Test.YtcgogenmikakkaaB5
/-
  A range over a function, 1: objects that are no cells; a region with an operation of another kind in the middle.
-/
namespace Go.Abs
set_option linter.unusedVariables false
set_option linter.unusedSimpArgs false
open Go.RowKit

theorem cell_obj {w : World} {a : Addr} {v : Value} (h : w.cell? a = some v) : ∃ C T fz, w.heap[a.block]? = some (Obj.cells C T fz) := by
  unfold World.cell? at h
  cases ho : w.heap[a.block]? with
  | none => simp [ho] at h
  | some o => cases o <;> first | exact ⟨_, _, _, rfl⟩ | simp_all

theorem own_cells {B : Nat} {ρ : Env} {H : Heap} {w : World} (hr : Rel B ρ H w) {k : Nat} (h : Own ρ H k) : ∃ C T fz, w.heap[k]? = some (Obj.cells C T fz) := by
  obtain ⟨b, co, cc, x, h1, h2, _⟩ := h
  obtain ⟨C, T, fz, h3, _⟩ := hr.blk b k co cc x h1 h2
  exact ⟨C, T, fz, h3⟩

/-- only objects that are no cells have turned, or come -/
theorem Rel.obj {B : Nat} {ρ : Env} {H : Heap} {w w' : World} (hr : Rel B ρ H w) (hs : w.heap.size ≤ w'.heap.size) (h : ∀ (k : Nat) (C : Array Value) (T : TypeId) (fz : Nat × Nat), w.heap[k]? = some (Obj.cells C T fz) → w'.heap[k]? = w.heap[k]?) : Rel B ρ H w' := by
  refine ⟨⟨Nat.le_trans hr.hB hs, hr.fresh, hr.live, fun b cb co cc x h1 h2 => ?_, hr.sep⟩, fun cb j v hv => ?_⟩
  · have hb := hr.blk b cb co cc x h1 h2
    obtain ⟨C, T, fz, h3, _⟩ := id hb
    exact hb.mono (Le.refl _) (h cb C T fz h3)
  · obtain ⟨h1, h2⟩ := hr.imm cb j v hv
    obtain ⟨C, T, fz, h3⟩ := cell_obj h1
    refine ⟨?_, h2⟩
    simp only [World.cell?] at h1 ⊢
    rw [h cb C T fz h3]; exact h1

section
variable {P : Program} {te : Nat → Option TI} {B N : Nat} {ds : List Deferred} {ρ : Env} {H : Heap} {w : World} {a : Act} {σ : Slots}

theorem vops_pre (hte : TEok P te) {ro : Option Nat} {n : Nat} {ops : Array Oper} (hall : ops.toList.all (operOk N) = true) {K : Slots → Heap → Prop} {Q : Exit → Act → World → Prop} {post : List Oper} :
    ∀ (l : List Oper) (k : Nat), ops.toList.drop k = l ++ post → ∀ (σ : Slots) (H : Heap) (ρ : Env) (a : Act) (w : World), Fits B N ds ρ σ H a w → VOps P te ops l σ H K →
      (∀ σ' H' ρ' a' w', Fits B N ds ρ' σ' H' a' w' → Step ρ H w ρ' H' w' → K σ' H' → wpOpsIn (FW ro) n P ops Q ((List.range post.length).map (· + (k + l.length))) a' w') → wpOpsIn (FW ro) n P ops Q ((List.range (l ++ post).length).map (· + k)) a w
  | [], k, _, σ, H, ρ, a, w, hf, hv, hq => hq σ H ρ a w hf (Step.refl _ _ _) hv
  | o :: l, k, hd, σ, H, ρ, a, w, hf, hv, hq => by
    have hk : ops[k]? = some o := by
      have : (ops.toList.drop k)[0]? = some o := by rw [hd]; rfl
      simpa using this
    have hd' : ops.toList.drop (k + 1) = l ++ post := by
      have : (ops.toList.drop k).drop 1 = l ++ post := by rw [hd]; rfl
      rwa [List.drop_drop] at this
    have hok : operOk N o = true := List.all_eq_true.1 hall o (Array.mem_toList_iff.2 (Array.mem_of_getElem? hk))
    have hdst : ∀ (j : Nat) (d : Nat), (ops[j]?).bind (·.dst) = some d → d < N := by
      intro j d hj
      cases hoj : ops[j]? with
      | none => rw [hoj] at hj; cases hj
      | some o' =>
        rw [hoj] at hj
        have := List.all_eq_true.1 hall o' (Array.mem_toList_iff.2 (Array.mem_of_getElem? hoj))
        simp only [operOk, Bool.and_eq_true] at this
        simp only [Option.bind_some] at hj
        have h2 := this.2
        rw [hj] at h2
        simpa [dstOk] using h2
    have hw : ∀ b, wantedA ops σ o = some b → Region.wanted o (yielded ops a.tmps) = b := fun b hb => wanted_ok hb fun d hdd => by
      have := hdst _ d hdd
      refine ⟨by rw [hf.2.2.1]; exact this, hf.2.1 d (by rw [hf.2.2.1]; exact this)⟩
    have hlist : (List.range ((o :: l) ++ post).length).map (· + k) = k :: (List.range (l ++ post).length).map (· + (k + 1)) := by
      simp only [List.cons_append, List.length_cons, List.range_succ_eq_map, List.map_cons, Nat.zero_add, List.map_map]
      congr 1
      apply List.map_congr_left
      intro x _
      simp only [Function.comp_apply]; omega
    rw [hlist]
    have hlen : k + (o :: l).length = k + 1 + l.length := by simp only [List.length_cons]; omega
    rw [hlen] at hq
    simp only [VOps] at hv
    simp only [wpOpsIn, hk]
    split at hv
    · rename_i hwt
      rw [hw _ hwt]
      simp only [if_true]
      split at hv
      · rename_i f args hc
        obtain ⟨R, hac, hrest⟩ := hv
        exact oper_wp_call hf.1 (oper_hx hf hok) hc hac fun rv w' ρ' r H' hR h1 h2 h3 =>
          vops_pre hte hall l (k + 1) hd' _ _ _ _ _ (hf.put h3 h2 h1) (hrest r H' hR) fun σ' H'' ρ'' a' w'' h4 h5 h6 => hq σ' H'' ρ'' a' w'' h4 (h3.trans h5) h6
      · rename_i hc
        split at hv
        · rename_i r H' hop
          exact oper_wp_op hte hf.1 (oper_hx hf hok) hop fun rv w' ρ' h1 h2 h3 =>
            vops_pre hte hall l (k + 1) hd' _ _ _ _ _ (hf.put h3 h2 h1) hv fun σ' H'' ρ'' a' w'' h4 h5 h6 => hq σ' H'' ρ'' a' w'' h4 (h3.trans h5) h6
        · exact hv.elim
    · rename_i hwt
      rw [hw _ hwt]
      simp only [Bool.false_eq_true, if_false]
      refine ⟨fun _ _ => trivial, ?_⟩
      exact vops_pre hte hall l (k + 1) hd' _ _ _ _ _ (hf.put (Step.refl _ _ _) hf.1 (r := .tup []) ⟨[], trivial, rfl⟩) hv hq
    · exact hv.elim
end
end Go.Abs
/-
  A range over a function, 2: conditions of code on the worlds themselves, with something beside that steps keep, and with marks among the deferred calls.
-/
namespace Go.Abs
set_option linter.unusedVariables false
set_option linter.unusedSimpArgs false
open Go.RowKit

abbrev mk (D : Nat) : Deferred := { target := .collected D, args := #[] }

/-- marks, all different, their blocks without a call -/
def DM (D0 : Option Nat) (w : World) : List Deferred → Prop
  | [] => True
  | d :: ds => (∃ D, d = mk D ∧ (∃ d0, D0 = some d0 ∧ d0 ≤ D) ∧ w.heap[D]? = some (.deferred (some [])) ∧ ∀ e ∈ ds, ∀ D', e = mk D' → D' ≠ D) ∧ DM D0 w ds

theorem DM.of {D0 : Option Nat} {w w' : World} (h : ∀ D : Nat, w.heap[D]? = some (.deferred (some [])) → w'.heap[D]? = some (.deferred (some []))) : ∀ {ds : List Deferred}, DM D0 w ds → DM D0 w' ds
  | [], _ => trivial
  | _ :: _, ⟨⟨D, h1, h2, h3, h4⟩, h5⟩ => ⟨⟨D, h1, h2, h _ h3, h4⟩, h5.of h⟩

theorem keep_obj {B : Nat} {ρ ρ' : Env} {H H' : Heap} {w w' : World} (hr : Rel B ρ H w) (hs : Step ρ H w ρ' H' w') {k : Nat} {o : Obj} (h : w.heap[k]? = some o) (ho : o.isCells = false) : w'.heap[k]? = some o := by
  refine (hs.keep k (Array.getElem?_eq_some_iff.1 h).1 fun hk => ?_).trans h
  obtain ⟨C, T, fz, h1⟩ := own_cells hr hk
  rw [h] at h1; cases h1; cases ho

theorem DM.step {D0 : Option Nat} {B : Nat} {ρ ρ' : Env} {H H' : Heap} {w w' : World} (hr : Rel B ρ H w) (hs : Step ρ H w ρ' H' w') {ds : List Deferred} (h : DM D0 w ds) : DM D0 w' ds :=
  h.of fun _ hD => keep_obj hr hs hD rfl

/-- what a proof goes by -/
structure Cx (P : Program) (te : Nat → Option TI) (N : Nat) where
  B : Nat
  D0 : Option Nat
  G : Env → Heap → World → Prop
  hte : TEok P te
  hmx : P.follows .mixedOrders = true
  hG : ∀ {ρ H w ρ' H' w'}, Rel B ρ H w → G ρ H w → Step ρ H w ρ' H' w' → G ρ' H' w'
  hD : ∀ {ρ H w}, G ρ H w → ∀ d0, D0 = some d0 → d0 ≤ w.heap.size
  /-- of a way out beside the heap's own account: where a caller's round has said 'no more' -/
  Gf : Env → Heap → World → Prop
  hGf : ∀ {ρ H w ρ' H' w'}, Rel B ρ H w → Gf ρ H w → Step ρ H w ρ' H' w' → Gf ρ' H' w'
  Jf : Heap → Prop

def Cx.F {P : Program} {te : Nat → Option TI} {N : Nat} (X : Cx P te N) (w : World) : Prop := ∃ ρ H, Rel X.B ρ H w ∧ X.Gf ρ H w ∧ X.Jf H

def QG {P : Program} {te : Nat → Option TI} {N : Nat} (X : Cx P te N) (Q : Post) (e : Exit) (a' : Act) (w' : World) : Prop :=
  ∃ ds', a'.defers = ds' ∧ DM X.D0 w' ds' ∧ ((∃ ρ' σ' H', Fits X.B N ds' ρ' σ' H' a' w' ∧ X.G ρ' H' w' ∧ Q e σ' H') ∨ (e = .ret ∧ X.F w'))

def WC {P : Program} {te : Nat → Option TI} {N : Nat} (X : Cx P te N) (c : Code) (σ : Slots) (H : Heap) (Q : Post) : Prop :=
  ∀ n ds ρ a w, Fits X.B N ds ρ σ H a w → X.G ρ H w → DM X.D0 w ds → c.wpIn (FW none) n P (QG X Q) a w

variable {P : Program} {te : Nat → Option TI} {N : Nat} {X : Cx P te N} {σ : Slots} {H : Heap} {Q : Post}

theorem wc_of_vc {c : Code} (hok : codeOk N c = true) (h : VC P te c σ H Q) : WC X c σ H Q := fun n ds ρ a w hf hg hd =>
  wpIn_mono (vc_ok X.hte X.hmx c σ H Q ρ a w hok hf h) fun _ _ _ ⟨ρ', σ', H', hs, hf', hq⟩ => ⟨ds, hf'.2.2.2, hd.step hf.1 hs, .inl ⟨ρ', σ', H', hf', X.hG hf.1 hg hs, hq⟩⟩

theorem wc_mono {c : Code} {Q' : Post} (hq : ∀ e σ H, Q e σ H → Q' e σ H) (h : WC X c σ H Q) : WC X c σ H Q' := fun n ds ρ a w hf hg hd =>
  wpIn_mono (h n ds ρ a w hf hg hd) fun _ _ _ ⟨ds', h1, h2, h3⟩ => ⟨ds', h1, h2, h3.imp (fun ⟨ρ', σ', H', g1, g2, g3⟩ => ⟨ρ', σ', H', g1, g2, hq _ _ _ g3⟩) id⟩

theorem wc_seq {x y : Code} (h : WC X x σ H (PThen (fun σ H => WC X y σ H Q) Q)) : WC X (.seq x y) σ H Q := fun n ds ρ a w hf hg hd => by
  refine wpIn_seq (wpIn_mono (h n ds ρ a w hf hg hd) ?_)
  rintro e a' w' ⟨ds', h1, h2, h3⟩
  rcases h3 with ⟨ρ', σ', H', g1, g2, g3⟩ | ⟨rfl, g⟩
  · cases e with
    | normal => exact g3 n ds' ρ' a' w' g1 g2 h2
    | _ => exact ⟨ds', h1, h2, .inl ⟨ρ', σ', H', g1, g2, g3⟩⟩
  · exact ⟨ds', h1, h2, .inr ⟨rfl, g⟩⟩

theorem wc_block {id : Nat} {c : Code} (h : WC X c σ H (PBlock id Q)) : WC X (.block id c) σ H Q := fun n ds ρ a w hf hg hd => by
  refine wpIn_block (wpIn_mono (h n ds ρ a w hf hg hd) ?_)
  rintro e a' w' ⟨ds', h1, h2, h3⟩
  rcases h3 with ⟨ρ', σ', H', g1, g2, g3⟩ | ⟨rfl, g⟩
  · cases e with
    | exit i =>
      simp only [PBlock] at g3
      simp only [Exit.inBlock]
      split
      · rename_i e; simp only [e, if_true] at g3; exact ⟨ds', h1, h2, .inl ⟨ρ', σ', H', g1, g2, g3⟩⟩
      · rename_i e; simp only [e, if_false] at g3; exact ⟨ds', h1, h2, .inl ⟨ρ', σ', H', g1, g2, g3⟩⟩
    | _ => exact ⟨ds', h1, h2, .inl ⟨ρ', σ', H', g1, g2, g3⟩⟩
  · exact ⟨ds', h1, h2, .inr ⟨rfl, g⟩⟩

theorem wc_cond {c : Operand} {x y : Code} {b : Bool} (hc : opdOk N c = true) (he : ev σ c = .s (.raw (.bool b))) (h : if b = true then WC X x σ H Q else WC X y σ H Q) : WC X (.cond c x y) σ H Q := fun n ds ρ a w hf hg hd => by
  have := hf.ev hc
  rw [he] at this
  refine wpIn_cond this.1 ?_
  cases b
  · simp only [Bool.false_eq_true, if_false] at h ⊢; exact h n ds ρ a w hf hg hd
  · simp only [if_true] at h ⊢; exact h n ds ρ a w hf hg hd

theorem wc_loop {c : Code} (I : Nat → Slots → Heap → Prop) (k : Nat) (h0 : I k σ H) (hr : ∀ k σ H, I k σ H → WC X c σ H (PThen (fun σ' H' => ∃ k', k' < k ∧ I k' σ' H') Q)) : WC X (.loop c) σ H Q := fun n ds ρ a w hf hg hd => by
  refine wpIn_loop_k (fun k a' w' => ∃ ds' ρ' σ' H', Fits X.B N ds' ρ' σ' H' a' w' ∧ X.G ρ' H' w' ∧ DM X.D0 w' ds' ∧ I k σ' H') (k := k) ⟨ds, ρ, σ, H, hf, hg, hd, h0⟩ ?_
  rintro k a' w' ⟨ds', ρ', σ', H', h1, h2, h3, h4⟩
  refine wpIn_mono (hr k σ' H' h4 n ds' ρ' a' w' h1 h2 h3) ?_
  rintro e a'' w'' ⟨ds'', h5, h6, h7⟩
  rcases h7 with ⟨ρ'', σ'', H'', g1, g2, g3⟩ | ⟨rfl, g⟩
  · cases e with
    | normal =>
      obtain ⟨k', hlt, hi⟩ := g3
      exact ⟨k', hlt, ds'', ρ'', σ'', H'', g1, g2, h6, hi⟩
    | _ => exact ⟨ds'', h5, h6, .inl ⟨ρ'', σ'', H'', g1, g2, g3⟩⟩
  · exact ⟨ds'', h5, h6, .inr ⟨rfl, g⟩⟩

theorem wc_range {c : Code} (m : Nat) (J : Nat → Slots → Heap → Prop) (h0 : J 0 σ H) (hr : ∀ i σ H, i ≤ m → J i σ H → WC X c σ H (PThen (fun σ' H' => i < m ∧ J (i + 1) σ' H') Q)) : WC X (.loop c) σ H Q := by
  refine wc_loop (fun k σ H => k ≤ m ∧ J (m - k) σ H) m ⟨Nat.le_refl _, by rw [Nat.sub_self]; exact h0⟩ ?_
  rintro k σ' H' ⟨hk, hj⟩
  refine wc_mono ?_ (hr (m - k) σ' H' (Nat.sub_le _ _) hj)
  rintro e σ1 H1 h
  cases e with
  | normal => exact ⟨k - 1, by have := h.1; omega, by omega, by have e : m - (k - 1) = m - k + 1 := by have := h.1; omega
                                                                rw [e]; exact h.2⟩
  | _ => exact h

/-- from a body to a contract -/
theorem leaves_marks {F : Fence} {n : Nat} {P : Program} {fn : Func} {tmps : Array Value} {R : Ending → World → Prop} {D0 : Nat} : ∀ (ds : List Deferred) (w : World), DM (some D0) w ds →
    (∀ w', w.heap.size = w'.heap.size → (∀ k, k < D0 → w'.heap[k]? = w.heap[k]?) → (∀ (k : Nat) (C : Array Value) (T : TypeId) (fz : Nat × Nat), w.heap[k]? = some (Obj.cells C T fz) → w'.heap[k]? = w.heap[k]?) → w'.os = w.os → w'.tape = w.tape → w'.output = w.output →
      LeavesIn F n P fn tmps R [] .returning w') → LeavesInM F n P fn tmps R ds .returning w
  | [], w, _, h => h w rfl (fun _ _ => rfl) (fun _ _ _ _ _ => rfl) rfl rfl rfl
  | d :: ds, w, ⟨⟨D, h1, ⟨_, rfl, h2⟩, h3, h4⟩, h5⟩, h => by
    refine ⟨by simp, .inl ⟨D, w.putObj D (.deferred none), by rw [h1], run_takeDeferred h3, leaves_marks (D0 := D0) ds _ ?_ ?_⟩⟩
    · have : ∀ (es : List Deferred), (∀ e ∈ es, ∀ D', e = mk D' → D' ≠ D) → DM (some D0) w es → DM (some D0) (w.putObj D (.deferred none)) es := by
        intro es
        induction es with
        | nil => exact fun _ _ => trivial
        | cons e es ih =>
          rintro hne ⟨⟨D', g1, g2, g3, g4⟩, g5⟩
          exact ⟨⟨D', g1, g2, (World.putObj_heap_other (hne e (by simp) D' g1)).trans g3, g4⟩, ih (fun e' he' => hne e' (by simp [he'])) g5⟩
      exact this ds h4 h5
    · intro w' hs hk hc ho ht hout
      refine h w' (by rw [← hs]; simp) (fun k hk' => (hk k hk').trans (World.putObj_heap_other (by omega))) (fun k C T fz hkc => ?_) ho ht hout
      have hne : k ≠ D := by rintro rfl; rw [h3] at hkc; cases hkc
      exact (hc k C T fz ((World.putObj_heap_other hne).trans hkc)).trans (World.putObj_heap_other hne)

theorem results_ok {B N : Nat} {ds : List Deferred} {ρ : Env} {σ : Slots} {H : Heap} {a : Act} {w : World} {fn : Func} (hte : TEok P te) (h2 : Fits B N ds ρ σ H a w) (hrs : fn.results.toList.all (resOk N) = true) {r : AV} (h : aresult te σ H fn.results = some r) :
    ∃ v, (results fn a.tmps).run P w = .ok v w ∧ CA ρ r v := by
  unfold aresult at h
  have key : ∀ cs, aresults te σ H fn.results.toList = some cs → (match cs with | [c] => r = c.av | cs => r = .tup cs) → ∃ v, (results fn a.tmps).run P w = .ok v w ∧ CA ρ r v := by
    intro cs hcs hm
    obtain ⟨vs, h5, h6⟩ := aresults_ok hte h2 _ _ hrs hcs
    have hrun : (results fn a.tmps).run P w = .ok (if h : vs.toArray.size = 1 then vs.toArray[0] else .tuple vs.toArray) w := by
      rw [results_eq, Array.mapM_eq_mapM_toList]
      simp only [Sem.run_bind, Sem.run_map]
      rw [h5]
      simp
    refine ⟨_, hrun, ?_⟩
    match cs, vs, h6, hm with
    | [], [], _, hm => subst hm; exact ⟨[], trivial, rfl⟩
    | [c], [v], h6, hm => subst hm; exact h6.1.av
    | c1 :: c2 :: cs, v1 :: v2 :: vs, h6, hm => subst hm; exact ⟨v1 :: v2 :: vs, h6, by simp⟩
    | [_], [], h6, _ => exact h6.elim
    | [_], _ :: _ :: _, h6, _ => exact h6.2.elim
    | [], _ :: _, h6, _ => exact h6.elim
    | _ :: _ :: _, [], h6, _ => exact h6.elim
    | _ :: _ :: _, [_], h6, _ => exact h6.2.elim
  split at h
  · rename_i c' hcs
    injection h with h
    exact key [c'] hcs h.symm
  · rename_i cs hne hcs
    injection h with h
    exact key cs hcs (by
      split
      · rename_i c'; exact absurd rfl (hne c')
      · exact h.symm)
  · cases h

/-- **A contract out of a body's conditions, of the second kind.** -/
theorem acalls_of_wc (hte : TEok P te) (hmx : P.follows .mixedOrders = true) {f : FuncId} {fn : Func} {c : Code} (hfn : P.funcs[f]? = some fn) (hb : fn.body = some c)
    (hent : ∀ args w, (callFunc f args).run P w = .ok (.enter f args) w) (hrs : fn.results.toList.all (resOk fn.ntmps) = true)
    {args : List Cmp} (hlen : Nat.ble args.length fn.ntmps = true) {H : Heap} {R : AV → Heap → Prop} (h : ∀ X : Cx P te fn.ntmps, (∃ d, X.D0 = some d) → WC X c (argSlots args) H (PRet te fn.results R)) : ACallsR P f args H R := by
  refine ⟨hent, fun B ρ w cargs hr hargs => ?_⟩
  refine (callsIn_wide (n := 0)).1 (callsIn_of_wp_marks hfn hb trivial ?_)
  have hl : cargs.length = args.length := hargs.length.symm
  have hlen := Nat.le_of_ble_eq_true hlen
  have hfit : Fits B fn.ntmps [] ρ (argSlots args) H { tmps := cargs.toArray ++ Array.replicate (fn.ntmps - cargs.toArray.size) undef, defers := [] } w := by
    refine ⟨hr, ?_, by simp; omega, rfl⟩
    intro t ht
    by_cases hlt : t < cargs.length
    · have := argSlots_ok (ρ := ρ) t hargs
      have e : (cargs.toArray ++ Array.replicate (fn.ntmps - cargs.toArray.size) undef).getD t undef = cargs.getD t undef := by
        simp [Array.getD, Array.getElem_append, hlt]
        intro h; omega
      rw [e]; exact this
    · have : argSlots args t = .any := by
        have : ∀ (cs : List Cmp) (t : Nat), cs.length ≤ t → argSlots cs t = .any := by
          intro cs
          induction cs with
          | nil => intro t _; rfl
          | cons c cs ih => intro t ht; cases t with
            | zero => simp at ht
            | succ t => exact ih t (by simpa using ht)
        exact this args t (by omega)
      rw [this]; trivial
  let X : Cx P te fn.ntmps := ⟨B, some w.heap.size, fun ρ' H' w' => Step ρ H w ρ' H' w', hte, hmx, fun _ h k => h.trans k, fun h d0 e => by cases e; exact h.size, fun _ _ _ => False, fun _ h _ => h, fun _ => False⟩
  refine wpIn_mono (h X ⟨_, rfl⟩ 0 [] ρ _ w hfit (Step.refl _ _ _) trivial) ?_
  rintro e a' w' ⟨ds', hds, hd, ⟨ρ', σ', H1, h2, h1, h3⟩ | ⟨_, _, _, _, hff, _⟩⟩
  case inr => exact hff.elim
  have fin : ∀ r1, aresult te σ' H1 fn.results = some r1 → R r1 H1 → LeavesInM (FW none) 0 P fn a'.tmps (fun e w' => ∃ (rv : Value) (ρ' : Env) (r : AV) (H' : Heap), e = .returned rv ∧ CA ρ' r rv ∧ Rel B ρ' H' w' ∧ Step ρ H w ρ' H' w' ∧ R r H') a'.defers .returning w' := by
    intro r1 h4 hR
    rw [h2.2.2.2]
    refine leaves_marks (D0 := w.heap.size) ds' w' hd ?_
    intro w'' hs hk hc ho ht hout
    have hrel : Rel B ρ' H1 w'' := h2.1.obj (Nat.le_of_eq hs) hc
    have hf'' : Fits B fn.ntmps ds' ρ' σ' H1 a' w'' := ⟨hrel, h2.2⟩
    obtain ⟨v, h7, h8⟩ := results_ok hte hf'' hrs h4
    refine ⟨v, h7, v, ρ', r1, H1, rfl, h8, hrel, ?_, hR⟩
    have hst : Step ρ H w ρ' H1 w' := h1
    exact ⟨ho.trans hst.os, ht.trans hst.tape, hout.trans hst.output, by rw [← hs]; exact hst.size, fun k hk' hno => (hk k hk').trans (hst.keep k hk' hno), hst.own, hst.le, hst.new, hst.n, hst.abs, hst.memn⟩
  cases e with
  | normal => obtain ⟨r1, h4, h5⟩ := h3; exact fin r1 h4 h5
  | ret => obtain ⟨r1, h4, h5⟩ := h3; exact fin r1 h4 h5
  | _ => exact h3.elim
end Go.Abs
/-
  A range over a function, 3: the calls of yield.
-/
namespace Go.Abs
set_option linter.unusedVariables false
set_option linter.unusedSimpArgs false
open Go.RowKit

variable {P : Program} {te : Nat → Option TI} {N : Nat} {X : Cx P te N} {σ : Slots} {H : Heap} {Q : Post}

/-- what a call of yield brings: true, and on from what the caller has made of the heap; or false -/
def YC (X : Cx P te N) (l : Nat) (c : Cmp) (H : Heap) (K : Heap → Prop) : Prop :=
  ∀ n ρ w v, Rel X.B ρ H w → X.G ρ H w → CC ρ c v → YieldAt (FW none) n P l #[v] w fun e w' =>
    (∀ D : Nat, w.heap[D]? = some (.deferred (some [])) → w'.heap[D]? = some (.deferred (some []))) ∧ ∃ ρ' H', Rel X.B ρ' H' w' ∧ Le ρ ρ' ∧
      ((e = .returned (.bool true) ∧ X.G ρ' H' w' ∧ K H') ∨ (e = .returned (.bool false) ∧ X.Gf ρ' H' w' ∧ X.Jf H'))

theorem yield_run {o : Oper} {fo x : Operand} {ts : Array TypeId} {l : Nat} {a : Act} {w : World} {nx : Next} (ho : o.op = .call { callee := .value fo, args := #[x], argTypes := ts }) (hfo : a.eval fo = .func (.yield l) #[] #[]) (hy : (Instr.yield l #[a.eval x]).run P w = .ok nx w) :
    (execOp a.eval o).run P w = .ok nx w := by
  simp [execOp, ho, resolve, Deferred.ofValue, hfo, invoke, hy]

theorem Fits.turn {B : Nat} {ds : List Deferred} {ρ ρ' : Env} {H' : Heap} {a : Act} {w w' : World} (hf : Fits B N ds ρ σ H a w) (hl : Le ρ ρ') (hr : Rel B ρ' H' w') {d : Option Tmp} {r : AV} {rv : Value} (hv : CA ρ' r rv) : Fits B N ds ρ' (Upd σ d r) H' (a.put d rv) w' :=
  ⟨hr, (hf.2.1.mono hl).put hv, by rw [Act.put_size]; exact hf.2.2.1, by cases d <;> exact hf.2.2.2⟩

/-- a region with a call of yield in it: what may come -/
def YOps (X : Cx P te N) (ops : Array Oper) (pre : List Oper) (o : Oper) (post : List Oper) (fo x : Operand) (l : Nat) (σ : Slots) (H : Heap) (K Kf : Slots → Heap → Heap → Prop) : Prop :=
  VOps P te ops pre σ H fun σ1 H1 => wantedA ops σ1 o = some true ∧ ev σ1 fo = .s (.raw (.func (.yield l) #[] #[])) ∧ ∃ c, (ev σ1 x).cmp = some c ∧
    YC X l c H1 (fun H2 => VOps P te ops post (Upd σ1 o.dst (.s (.raw (.bool true)))) H2 (fun σ3 H3 => K σ3 H2 H3)) ∧
    ∀ H2, VOps P te ops post (Upd σ1 o.dst (.s (.raw (.bool false)))) H2 (fun σ3 H3 => Kf σ3 H2 H3)

theorem yops_ok {ops : Array Oper} (hall : ops.toList.all (operOk N) = true) {pre post : List Oper} {o : Oper} (hsp : ops.toList = pre ++ o :: post) {fo x : Operand} {ts : Array TypeId} (ho : o.op = .call { callee := .value fo, args := #[x], argTypes := ts }) {l n : Nat} {id : Nat}
    {K Kf : Slots → Heap → Heap → Prop} {R : Exit → Act → World → Prop} {ds : List Deferred} {ρ : Env} {a : Act} {w : World} (hf : Fits X.B N ds ρ σ H a w) (hg : X.G ρ H w) (hd : DM X.D0 w ds)
    (h : YOps X ops pre o post fo x l σ H K Kf)
    (hk : ∀ σ3 H2 H3 ρ' a' w', Fits X.B N ds ρ' σ3 H3 a' w' → X.G ρ' H3 w' → DM X.D0 w' ds → K σ3 H2 H3 → R .normal a' w')
    (hkf : ∀ σ3 H2 H3 ρ' a' w', Fits X.B N ds ρ' σ3 H3 a' w' → X.Gf ρ' H3 w' → X.Jf H2 → DM X.D0 w' ds → Kf σ3 H2 H3 → R .normal a' w') :
    (Code.region id ops false).wpIn (FW none) n P R a w := by
  refine wpIn_region ?_
  have key := vops_pre (ds := ds) (B := X.B) X.hte (ro := none) (n := n) hall (Q := R) (post := o :: post) pre 0 (by simpa using hsp) σ H ρ a w hf h ?_
  · have hlen : (pre ++ o :: post).length = ops.size := by rw [← hsp]; simp
    rw [hlen] at key; simpa using key
  rintro σ1 H1 ρ1 a1 w1 hf1 hs1 ⟨hw, hfo, c, hc, hy, hn⟩
  have hg1 := X.hG hf.1 hg hs1
  have hd1 := hd.step hf.1 hs1
  have hk0 : ops[pre.length]? = some o := by
    have : ops.toList[pre.length]? = some o := by rw [hsp]; simp
    simpa using this
  have hok : operOk N o = true := List.all_eq_true.1 hall o (Array.mem_toList_iff.2 (Array.mem_of_getElem? hk0))
  have hdrop : ops.toList.drop (pre.length + 1) = post := by rw [hsp]; simp
  have hlist : (List.range (o :: post).length).map (· + (0 + pre.length)) = pre.length :: (List.range post.length).map (· + (pre.length + 1)) := by
    simp only [List.length_cons, List.range_succ_eq_map, List.map_cons, Nat.zero_add, List.map_map]
    congr 1
    apply List.map_congr_left
    intro x _
    simp only [Function.comp_apply]; omega
  have hdst : ∀ (j : Nat) (d : Nat), (ops[j]?).bind (·.dst) = some d → d < N := by
    intro j d hj
    cases hoj : ops[j]? with
    | none => rw [hoj] at hj; cases hj
    | some o' =>
      rw [hoj] at hj
      have := List.all_eq_true.1 hall o' (Array.mem_toList_iff.2 (Array.mem_of_getElem? hoj))
      simp only [operOk, Bool.and_eq_true] at this
      simp only [Option.bind_some] at hj
      have h2 := this.2
      rw [hj] at h2
      simpa [dstOk] using h2
  have hwt : Region.wanted o (yielded ops a1.tmps) = true := wanted_ok hw fun d hdd => by
    have := hdst _ d hdd
    refine ⟨by rw [hf1.2.2.1]; exact this, hf1.2.1 d (by rw [hf1.2.2.1]; exact this)⟩
  rw [hlist]
  simp only [wpOpsIn, hk0, hwt, if_true]
  have hx := oper_hx hf1 hok
  have hfv : a1.eval fo = .func (.yield l) #[] #[] := by
    have := hx fo (by rw [ho]; simp [Op.operands, Call.operands])
    rw [hfo] at this
    exact this.1
  have hxv : CC ρ1 c (a1.eval x) := by
    have := hx x (by rw [ho]; simp [Op.operands, Call.operands])
    unfold AV.cmp at hc
    split at hc
    · rename_i he; injection hc with hc; subst hc; rw [he] at this; exact this
    · rename_i he; injection hc with hc; subst hc; rw [he] at this; exact this
    · cases hc
  unfold Oper.wpIn
  refine ⟨fun _ _ => trivial, ?_⟩
  obtain ⟨fn, tmps, assign, body, hrun, hround⟩ := hy (n - 1) ρ1 w1 _ hf1.1 hg1 hxv
  rw [Oper.semAt_eq _ _ _ (fun c hc => by rw [ho] at hc; cases hc), yield_run ho hfv hrun, Oper.uponIn_round]
  refine ⟨fun h => by simp [FW, Fence.wide] at h, hround.mono ?_⟩
  rintro e w2 ⟨hdef, ρ2, H2, hr2, hl2, (⟨rfl, hg2, hK⟩ | ⟨rfl, hg2, hJ⟩)⟩
  · refine vops_ok (ds := ds) X.hte hall post (pre.length + 1) hdrop _ _ ρ2 _ _ (hf1.turn hl2 hr2 (r := .s (.raw (.bool true))) ⟨rfl, rfl⟩) hK ?_
    intro σ3 H3 ρ3 a3 w3 hf3 hs3 h3
    exact hk _ _ _ _ _ _ hf3 (X.hG hr2 hg2 hs3) ((hd1.of hdef).step hr2 hs3) h3
  · refine vops_ok (ds := ds) X.hte hall post (pre.length + 1) hdrop _ _ ρ2 _ _ (hf1.turn hl2 hr2 (r := .s (.raw (.bool false))) ⟨rfl, rfl⟩) (hn H2) ?_
    intro σ3 H3 ρ3 a3 w3 hf3 hs3 h3
    exact hkf _ _ _ _ _ _ hf3 (X.hGf hr2 hg2 hs3) hJ ((hd1.of hdef).step hr2 hs3) h3

/-- a region with a call of yield, and what follows it: at false it returns, the heap as it is -/
theorem wc_yield {ops : Array Oper} (hall : ops.toList.all (operOk N) = true) {pre post : List Oper} {o : Oper} (hsp : ops.toList = pre ++ o :: post) {fo x : Operand} {ts : Array TypeId} (ho : o.op = .call { callee := .value fo, args := #[x], argTypes := ts }) {l id : Nat} {y : Code} (hy : codeOk N y = true)
    (h : YOps X ops pre o post fo x l σ H (fun σ3 _ H3 => WC X y σ3 H3 Q) (fun σ3 H2 H3 => H3 = H2 ∧ VC P te y σ3 H2 fun e _ H4 => e = .ret ∧ H4 = H2)) : WC X (.seq (.region id ops false) y) σ H Q := fun n ds ρ a w hf hg hd => by
  refine wpIn_seq (yops_ok hall hsp ho hf hg hd h ?_ ?_)
  · intro σ3 H2 H3 ρ' a' w' h1 h2 h3 h4
    exact h4 n ds ρ' a' w' h1 h2 h3
  · rintro σ3 H2 H3 ρ' a' w' h1 h2 hJ h3 ⟨rfl, h4⟩
    refine wpIn_mono (vc_ok X.hte X.hmx y σ3 H3 _ ρ' a' w' hy h1 h4) ?_
    rintro e a'' w'' ⟨ρ'', σ'', H'', hs, hf'', rfl, rfl⟩
    exact ⟨ds, hf''.2.2.2, h3.step h1.1 hs, .inr ⟨rfl, ρ'', H'', hf''.1, X.hGf h1.1 h2 hs, hJ⟩⟩

/-- the end of a body: it may also be come to after a false -/
def QL (X : Cx P te N) (Q : Post) (e : Exit) (a : Act) (w : World) : Prop := QG X Q e a w ∨ (∃ ds', a.defers = ds' ∧ DM X.D0 w ds' ∧ e = .normal ∧ X.F w)
def WCL (X : Cx P te N) (c : Code) (σ : Slots) (H : Heap) (Q : Post) : Prop :=
  ∀ n ds ρ a w, Fits X.B N ds ρ σ H a w → X.G ρ H w → DM X.D0 w ds → c.wpIn (FW none) n P (QL X Q) a w
theorem wcl_of_wc {c : Code} (h : WC X c σ H Q) : WCL X c σ H Q := fun n ds ρ a w hf hg hd => wpIn_mono (h n ds ρ a w hf hg hd) fun _ _ _ h => .inl h
theorem wcl_seq {x y : Code} (h : WC X x σ H (PThen (fun σ H => WCL X y σ H Q) Q)) : WCL X (.seq x y) σ H Q := fun n ds ρ a w hf hg hd => by
  refine wpIn_seq (wpIn_mono (h n ds ρ a w hf hg hd) ?_)
  rintro e a' w' ⟨ds', h1, h2, h3⟩
  rcases h3 with ⟨ρ', σ', H', g1, g2, g3⟩ | ⟨rfl, g⟩
  · cases e with
    | normal => exact g3 n ds' ρ' a' w' g1 g2 h2
    | _ => exact .inl ⟨ds', h1, h2, .inl ⟨ρ', σ', H', g1, g2, g3⟩⟩
  · exact .inl ⟨ds', h1, h2, .inr ⟨rfl, g⟩⟩
theorem wcl_cond {c : Operand} {x y : Code} {b : Bool} (hc : opdOk N c = true) (he : ev σ c = .s (.raw (.bool b))) (h : if b = true then WCL X x σ H Q else WCL X y σ H Q) : WCL X (.cond c x y) σ H Q := fun n ds ρ a w hf hg hd => by
  have := hf.ev hc
  rw [he] at this
  refine wpIn_cond this.1 ?_
  cases b
  · simp only [Bool.false_eq_true, if_false] at h ⊢; exact h n ds ρ a w hf hg hd
  · simp only [if_true] at h ⊢; exact h n ds ρ a w hf hg hd
theorem wcl_yield {ops : Array Oper} (hall : ops.toList.all (operOk N) = true) {pre post : List Oper} {o : Oper} (hsp : ops.toList = pre ++ o :: post) {fo x : Operand} {ts : Array TypeId} (ho : o.op = .call { callee := .value fo, args := #[x], argTypes := ts }) {l id : Nat}
    (h : YOps X ops pre o post fo x l σ H (fun σ3 _ H3 => Q .normal σ3 H3) (fun _ H2 H3 => H3 = H2)) : WCL X (.region id ops false) σ H Q := fun n ds ρ a w hf hg hd => by
  refine yops_ok hall hsp ho hf hg hd h ?_ ?_
  · intro σ3 H2 H3 ρ' a' w' h1 h2 h3 h4
    exact .inl ⟨ds, h1.2.2.2, h3, .inl ⟨ρ', σ3, H3, h1, h2, h4⟩⟩
  · rintro σ3 H2 H3 ρ' a' w' h1 h2 hJ h3 rfl
    exact .inr ⟨ds, h1.2.2.2, h3, rfl, ρ', H3, h1.1, h2, hJ⟩
end Go.Abs
/-
  A range over a function, 4: the statement.
-/
namespace Go.Abs
set_option linter.unusedVariables false
set_option linter.unusedSimpArgs false
open Go.RowKit

variable {P : Program} {te : Nat → Option TI} {N : Nat} {X : Cx P te N} {σ : Slots} {H : Heap} {Q : Post}

/-- what a caller's loop knows between rounds ('J i T H': after i rounds; T: the blocks that it leans on), and what an iterator with the elements xs does with it -/
structure JOk (J : Nat → (Nat → Prop) → Heap → Prop) : Prop where
  lt : ∀ {i T H}, J i T H → ∀ k, T k → k < H.n
  ext : ∀ {i T H H'}, J i T H → H.n ≤ H'.n → (∀ k, T k → H'.m k = H.m k) → J i T H'

def Round (J : Nat → (Nat → Prop) → Heap → Prop) (i : Nat) (T : Nat → Prop) (H H' : Heap) : Prop :=
  H.n ≤ H'.n ∧ (∀ k, k < H.n → ¬ T k → H'.m k = H.m k) ∧ ∃ T', J (i + 1) T' H' ∧ ∀ k, T' k → T k ∨ H.n ≤ k

def IterC (P : Program) (te : Nat → Option TI) (M : Nat) (f : FuncId) (caps : List (Nat × Nat)) (xs : List Cmp) (H : Heap) : Prop :=
  ∀ (X : Cx P te M) (l : Nat) (J : Nat → (Nat → Prop) → Heap → Prop) (T : Nat → Prop), JOk J → J 0 T H → (∀ q ∈ caps, ¬ T q.1) →
    (∀ i c T H1, xs[i]? = some c → J i T H1 → YC X l c H1 (Round J i T H1)) →
    ∀ n ρ w vs, Rel X.B ρ H w → X.G ρ H w → Al2 (fun p v => PC ρ p.1 p.2 v) caps vs → CallsIn (FW none) n P f (#[.func (.yield l) #[] #[]] ++ vs.toArray) w fun e w' =>
      (∃ v, e = .returned v) ∧ ((∃ ρ' H' T', Rel X.B ρ' H' w' ∧ X.G ρ' H' w' ∧ J xs.length T' H') ∨ X.F w')

theorem Step.put {ρ ρ' : Env} {H H' : Heap} {w w' : World} (h : Step ρ H w ρ' H' w') {l : Nat} (hl : w.heap.size ≤ l) (o : Obj) : Step ρ H w ρ' H' (w'.putObj l o) :=
  ⟨h.os, h.tape, h.output, by simpa using h.size, fun k hk ho => (World.putObj_heap_other (by omega)).trans (h.keep k hk ho), h.own, h.le, h.new, h.n, h.abs, h.memn⟩
theorem Rel.putl {B : Nat} {ρ : Env} {H : Heap} {w : World} (h : Rel B ρ H w) {l : Nat} {o : Obj} (hl : w.heap[l]? = some o) (ho : o.isCells = false) (o' : Obj) : Rel B ρ H (w.putObj l o') :=
  h.obj (by simp) fun k C T fz hk => World.putObj_heap_other (by rintro rfl; rw [hl] at hk; cases hk; cases ho)
theorem Step.alloc' (ρ : Env) (H : Heap) (w : World) (o : Obj) : Step ρ H w ρ H (w.alloc o) :=
  ⟨rfl, rfl, rfl, by simp, fun k hk _ => Below.heap_alloc w o k hk, fun _ h => .inl h, Le.refl _, fun b cb co cc h h' => (by rw [h] at h'; cases h'), Nat.le_refl _, fun _ _ h => h, fun _ _ _ h => .inl h⟩
theorem Rel.alloc' {B : Nat} {ρ : Env} {H : Heap} {w : World} (h : Rel B ρ H w) (o : Obj) : Rel B ρ H (w.alloc o) :=
  h.obj (by simp) fun k C T fz hk => Below.heap_alloc w o k (Array.getElem?_eq_some_iff.1 hk).1

def RPost (J : Nat → (Nat → Prop) → Heap → Prop) (Jr : Heap → Prop) (i : Nat) (T : Nat → Prop) (H : Heap) : Post
  | .normal, _, H' => Round J i T H H'
  | .ret, _, H' => Jr H'
  | _, _, _ => False

theorem wc_rangeFunc (hon : ∃ d, X.D0 = some d) {g : Operand} {p : Nat} {assign body : Code} {M : Nat} {f : FuncId} {caps : List (Nat × Nat)} {xs : List Cmp} (hok : opdOk N g = true) (hev : ev σ g = .s (.fn f caps)) (hent : ∀ args w, (callFunc f args).run P w = .ok (.enter f args) w)
    (hit : IterC P te M f caps xs H) (J : Nat → (Nat → Prop) → Heap → Prop) (Jr : Heap → Prop) (T : Nat → Prop) (hJ : JOk J) (h0 : J 0 T H) (hT : ∀ q ∈ caps, ¬ T q.1) (hca : codeOk N assign = true) (hcb : codeOk N body = true)
    (hr : ∀ i c T H1, xs[i]? = some c → J i T H1 → VC P te assign (Upd σ (some p) c.av) H1 (PThen (fun σ2 H2 => VC P te body σ2 H2 (RPost J Jr i T H1)) (fun _ _ _ => False)))
    (hdone : ∀ T H', J xs.length T H' → Q .normal σ H') (hret : ∀ H', Jr H' → Q .ret σ H') : WC X (.rangeFunc g #[p] assign body) σ H Q := fun n ds ρ a w hf hg hd => by
  have hgv := hf.ev hok
  rw [hev] at hgv
  obtain ⟨vs, hvs, hgv⟩ := hgv
  refine wpIn_rangeFunc ?_
  intro fn hfn
  obtain ⟨rec, hrec⟩ : ∃ rec : LoopState → Option Code → Loop, rec = fun st pe => { state := st, pending := pe, fn, tmps := a.tmps, params := #[p], assign, body, defers := w.heap.size } := ⟨_, rfl⟩
  obtain ⟨W1, hW1⟩ : ∃ W1, (w.alloc (.deferred (some []))).alloc (.loop (rec .ready none)) = W1 := ⟨_, rfl⟩
  have hL1 : W1.heap[w.heap.size + 1]? = some (.loop (rec .ready none)) := by
    rw [← hW1]; have := World.alloc_heap_new (w.alloc (.deferred (some []))) (.loop (rec .ready none)); rwa [World.size_alloc] at this
  have hK1 : W1.heap[w.heap.size]? = some (.deferred (some [])) := by
    rw [← hW1]; exact (Below.heap_alloc _ _ _ (by simp)).trans (World.alloc_heap_new w _)
  have hR1 : Rel X.B ρ H W1 := by rw [← hW1]; exact (hf.1.alloc' _).alloc' _
  have hS1 : Step ρ H w ρ H W1 := by rw [← hW1]; exact (Step.alloc' _ _ _ _).trans (Step.alloc' _ _ _ _)
  refine ⟨w.heap.size + 1, [mk w.heap.size], W1, { target := .fn (.func f) vs.toArray, args := #[.func (.yield (w.heap.size + 1)) #[] #[]] }, W1, f,
    #[.func (.yield (w.heap.size + 1)) #[] #[]] ++ vs.toArray, W1, ?_, ?_, fun _ _ => trivial, ?_, fun h => by simp [FW, Fence.wide] at h, ?_⟩
  · rw [← hW1, hrec]; exact run_enterLoop_outer _ _ _ _ _
  · simp only [resolve, hgv]
    simp [go_sem]
  · simp [invoke, go_sem, hent]
  -- the iterator
  let Y : Cx P te M := ⟨X.B, none, fun ρ' H' w' => Step ρ H w ρ' H' w' ∧ w'.heap[w.heap.size + 1]? = some (.loop (rec .ready none)) ∧ w'.heap[w.heap.size]? = some (.deferred (some [])), X.hte, X.hmx,
    fun hr ⟨h1, h2, h3⟩ k => ⟨h1.trans k, keep_obj hr k h2 rfl, keep_obj hr k h3 rfl⟩,
    fun _ _ h => by (cases h),
    fun ρ' H' w' => Step ρ H w ρ' H' w' ∧ w'.heap[w.heap.size + 1]? = some (.loop (rec .done (some .ret))) ∧ w'.heap[w.heap.size]? = some (.deferred (some [])),
    fun hr ⟨h1, h2, h3⟩ k => ⟨h1.trans k, keep_obj hr k h2 rfl, keep_obj hr k h3 rfl⟩, Jr⟩
  have hds : ∀ w' ρ' H', Rel X.B ρ' H' w' → Step ρ H w ρ' H' w' → w'.heap[w.heap.size]? = some (.deferred (some [])) → (∃ d0, X.D0 = some d0 ∧ d0 ≤ w.heap.size) → DM X.D0 w' (mk w.heap.size :: ds) := by
    intro w' ρ' H' h1 h2 h3 h4
    refine ⟨⟨w.heap.size, rfl, h4, h3, ?_⟩, hd.step hf.1 h2⟩
    intro e he D' hD' heq
    subst hD' heq
    have : ∀ (es : List Deferred), DM X.D0 w es → ∀ D, mk D ∈ es → D < w.heap.size := by
      intro es
      induction es with
      | nil => intro _ D hD; cases hD
      | cons e es ih =>
        rintro ⟨⟨D', g1, g2, g3, g4⟩, g5⟩ D hD
        rcases List.mem_cons.1 hD with h | h
        · rw [g1] at h; injection h with h _; injection h with h; subst h
          exact (Array.getElem?_eq_some_iff.1 g3).1
        · exact ih g5 D h
    exact absurd (this ds hd _ he) (Nat.lt_irrefl _)
  refine (hit Y (w.heap.size + 1) J T hJ h0 hT ?_ (n - 1) ρ W1 vs hR1 ⟨hS1, hL1, hK1⟩ hvs).mono ?_
  · -- a round
    rintro i c T1 H1 hc hj m ρ1 w2 v hr1 ⟨hs1, hl1, hk1⟩ hv
    have hrun := run_yield (P := P) (args := #[v]) hl1 (by rw [hrec]; simp)
    rw [hrec] at hrun
    refine ⟨fn, _, assign, body, hrun, roundIn_of_wpIn trivial ?_⟩
    have hfit : Fits X.B N [] ρ1 (Upd σ (some p) c.av) H1 { tmps := ((#[p].zip #[v]).foldl (fun tmps (t, a) => tmps.setIfInBounds t a) a.tmps), defers := [] } w2 := by
      refine ⟨hr1, ?_, ?_, rfl⟩
      · have := (hf.2.1.mono hs1.le).put (a := { a with defers := [] }) (d := some p) hv.av
        simpa [Act.put] using this
      · simpa using hf.2.2.1
    refine wpIn_mono (vc_ok (ro := some (w.heap.size + 1)) X.hte X.hmx assign _ H1 _ ρ1 _ w2 hca hfit (hr i c T1 H1 hc hj)) ?_
    rintro e a3 w3 ⟨ρ3, σ3, H3, hs3, hf3, h3⟩
    cases e with
    | normal =>
      have hl3 := keep_obj hr1 hs3 hl1 rfl
      have hk3 := keep_obj hr1 hs3 hk1 rfl
      refine ⟨_, run_beginRound hl3 (by rw [hrec]), ?_⟩
      have hlt : w.heap.size + 1 < w3.heap.size := (Array.getElem?_eq_some_iff.1 hl3).1
      obtain ⟨w4, hw4⟩ : ∃ w4, w4 = w3.putObj (w.heap.size + 1) (.loop { rec .ready none with state := .busy }) := ⟨_, rfl⟩
      rw [← hw4]
      have hl4 : w4.heap[w.heap.size + 1]? = some (.loop { rec .ready none with state := .busy }) := by rw [hw4]; exact World.putObj_heap_same hlt
      have hk4 : w4.heap[w.heap.size]? = some (.deferred (some [])) := by rw [hw4]; exact (World.putObj_heap_other (by omega)).trans hk3
      have hr4 : Rel X.B ρ3 H3 w4 := by rw [hw4]; exact hf3.1.putl hl3 rfl _
      have hs4 : Step ρ H w ρ3 H3 w4 := by rw [hw4]; exact (hs1.trans hs3).put (by omega) _
      refine wpIn_mono (vc_ok (ro := some (w.heap.size + 1)) X.hte X.hmx body σ3 H3 _ ρ3 a3 w4 hcb ⟨hr4, hf3.2⟩ h3) ?_
      rintro e a5 w5 ⟨ρ5, σ5, H5, hs5, hf5, h5⟩
      have hl5 := keep_obj hr4 hs5 hl4 rfl
      have hk5 := keep_obj hr4 hs5 hk4 rfl
      have hlt5 : w.heap.size + 1 < w5.heap.size := (Array.getElem?_eq_some_iff.1 hl5).1
      have hdef : ∀ (o : Obj) (D : Nat), w2.heap[D]? = some (.deferred (some [])) → (w5.putObj (w.heap.size + 1) o).heap[D]? = some (.deferred (some [])) := by
        intro o D hD
        have hne : D ≠ w.heap.size + 1 := by rintro rfl; rw [hl1] at hD; cases hD
        refine (World.putObj_heap_other hne).trans (keep_obj hr4 hs5 ?_ rfl)
        rw [hw4]; exact (World.putObj_heap_other hne).trans (keep_obj hr1 hs3 hD rfl)
      have hend := fun jump => run_endRound (P := P) jump hl5
      cases e with
      | normal =>
        refine ⟨_, _, hend none, hdef _, ρ5, H5, hf5.1.putl hl5 rfl _, hs3.le.trans hs5.le, .inl ⟨rfl, ⟨(hs4.trans hs5).put (by omega) _, ?_, (World.putObj_heap_other (by omega)).trans hk5⟩, h5⟩⟩
        rw [World.putObj_heap_same hlt5, hrec]; rfl
      | ret =>
        refine ⟨_, _, hend (some .ret), hdef _, ρ5, H5, hf5.1.putl hl5 rfl _, hs3.le.trans hs5.le, .inr ⟨rfl, ⟨(hs4.trans hs5).put (by omega) _, ?_, (World.putObj_heap_other (by omega)).trans hk5⟩, h5⟩⟩
        rw [World.putObj_heap_same hlt5, hrec]; rfl
      | _ => exact h5.elim
    | _ => exact h3.elim
  · -- behind it
    have fin : ∀ (ρ2 : Env) (H2 : Heap) (w2 : World) (r : Loop) (o : Obj), Rel X.B ρ2 H2 w2 → Step ρ H w ρ2 H2 w2 → w2.heap[w.heap.size + 1]? = some (.loop r) → w2.heap[w.heap.size]? = some (.deferred (some [])) → ∀ e, Q e σ H2 →
        QG X Q e { a with defers := [mk w.heap.size] ++ a.defers } (w2.putObj (w.heap.size + 1) o) := by
      intro ρ2 H2 w2 r o hr2 hs2 hl2 hk2 e he
      have hs4 := hs2.put (l := w.heap.size + 1) (by omega) o
      have hr4 := hr2.putl hl2 rfl o
      exact ⟨mk w.heap.size :: ds, by simp [hf.2.2.2], hds _ ρ2 H2 hr4 hs4 ((World.putObj_heap_other (by omega)).trans hk2) (hon.imp fun d hd' => ⟨hd', X.hD hg d hd'⟩), .inl ⟨ρ2, σ, H2, ⟨hr4, hf.2.1.mono hs2.le, hf.2.2.1, by simp [hf.2.2.2]⟩, X.hG hf.1 hg hs4, he⟩⟩
    rintro e w2 ⟨⟨v, rfl⟩, (⟨ρ2, H2, T2, hr2, ⟨hs2, hl2, hk2⟩, hj2⟩ | ⟨ρ2, H2, hr2, ⟨hs2, hl2, hk2⟩, hj2⟩)⟩
    · refine ⟨none, _, by have := run_endLoop (P := P) hl2 (by rw [hrec]; simp); rw [hrec] at this; exact this, ?_⟩
      exact fin ρ2 H2 w2 _ _ hr2 hs2 hl2 hk2 _ (hdone _ _ hj2)
    · refine ⟨some .ret, _, by have := run_endLoop (P := P) hl2 (by rw [hrec]; simp); rw [hrec] at this; exact this, ?_⟩
      exact wpIn_ret (fin ρ2 H2 w2 _ _ hr2 hs2 hl2 hk2 _ (hret _ hj2))

/-- an iterator's contract out of its body's conditions -/
theorem iterC_of (hte : TEok P te) (hmx : P.follows .mixedOrders = true) {f : FuncId} {fn : Func} {c : Code} (hfn : P.funcs[f]? = some fn) (hb : fn.body = some c) (hn : fn.results = #[]) {caps : List (Nat × Nat)} (hlen : Nat.ble (caps.length + 1) fn.ntmps = true) {xs : List Cmp}
    (h : ∀ (X : Cx P te fn.ntmps) (l : Nat) (J : Nat → (Nat → Prop) → Heap → Prop) (T : Nat → Prop), JOk J → J 0 T H → (∀ q ∈ caps, ¬ T q.1) → (∀ i c T H1, xs[i]? = some c → J i T H1 → YC X l c H1 (Round J i T H1)) →
      WCL X c (argSlots (.s (.raw (.func (.yield l) #[] #[])) :: caps.map fun q => .s (.ptr q.1 q.2))) H (fun e _ H' => (e = .normal ∨ e = .ret) ∧ ∃ T', J xs.length T' H')) : IterC P te fn.ntmps f caps xs H := by
  intro X l J T hJ h0 hT hy n ρ w vs hr hg hvs
  let X' : Cx P te fn.ntmps := ⟨X.B, none, X.G, X.hte, X.hmx, X.hG, (fun _ _ h => by simp at h), X.Gf, X.hGf, X.Jf⟩
  refine callsIn_of_wp hfn hb trivial ?_
  have hargs : Al2 (CC ρ) (Cmp.s (.raw (.func (.yield l) #[] #[])) :: caps.map fun q => Cmp.s (.ptr q.1 q.2)) (.func (.yield l) #[] #[] :: vs) := ⟨⟨rfl, rfl⟩, caps_ok hvs⟩
  have hl : vs.length = caps.length := by have := hargs.length; simpa using this.symm
  have hlen := Nat.le_of_ble_eq_true hlen
  generalize hcs : (Cmp.s (.raw (.func (.yield l) #[] #[])) :: caps.map fun q => Cmp.s (.ptr q.1 q.2)) = cs at hargs
  have ecs : cs.length = caps.length + 1 := by rw [← hcs]; simp
  have hfit : Fits X.B fn.ntmps [] ρ (argSlots cs) H { tmps := (#[.func (.yield l) #[] #[]] ++ vs.toArray) ++ Array.replicate (fn.ntmps - (#[.func (.yield l) #[] #[]] ++ vs.toArray : Array Value).size) undef, defers := [] } w := by
    have e0 : (#[.func (.yield l) #[] #[]] ++ vs.toArray : Array Value) = (Value.func (.yield l) #[] #[] :: vs).toArray := by simp
    rw [e0]
    generalize hca : (Value.func (.yield l) #[] #[] :: vs) = cargs at hargs
    have eca : cargs.length = caps.length + 1 := by rw [← hca]; simp [hl]
    refine ⟨hr, ?_, by simp; omega, rfl⟩
    intro t ht
    by_cases hlt : t < cargs.length
    · have := argSlots_ok (ρ := ρ) t hargs
      have e : (cargs.toArray ++ Array.replicate (fn.ntmps - cargs.toArray.size) undef).getD t undef = cargs.getD t undef := by
        simp [Array.getD, Array.getElem_append, hlt]
        intro h; omega
      rw [e]; exact this
    · have : argSlots cs t = .any := by
        have : ∀ (cs : List Cmp) (t : Nat), cs.length ≤ t → argSlots cs t = .any := by
          intro cs
          induction cs with
          | nil => intro t _; rfl
          | cons c cs ih => intro t ht; cases t with
            | zero => simp at ht
            | succ t => exact ih t (by simpa using ht)
        exact this cs t (by omega)
      rw [this]; trivial
  have hw := h X' l J T hJ h0 hT hy
  rw [hcs] at hw
  refine wpIn_mono (hw n [] ρ _ w hfit hg trivial) ?_
  have nil : ∀ {w' : World} {ds' : List Deferred}, DM X'.D0 w' ds' → ds' = [] := by
    intro w' ds' hd
    cases ds' with
    | nil => rfl
    | cons d ds => obtain ⟨⟨D, _, ⟨d0, h0, _⟩, _⟩, _⟩ := hd; cases h0
  have res : ∀ (tm : Array Value) (w' : World), (results fn tm).run P w' = .ok (.tuple #[]) w' := by
    intro tm w'
    rw [results_eq, hn]; simp
  rintro e a' w' (⟨ds', h1, h2, h3⟩ | ⟨ds', h1, h2, rfl, h3⟩)
  · have hd := h1.trans (nil h2)
    rcases h3 with ⟨ρ', σ', H', g1, g2, (g3 | g3), T', g4⟩ | ⟨rfl, g⟩
    · subst g3; exact ⟨hd, _, res _ _, ⟨_, rfl⟩, .inl ⟨ρ', H', T', g1.1, g2, g4⟩⟩
    · subst g3; exact ⟨hd, _, res _ _, ⟨_, rfl⟩, .inl ⟨ρ', H', T', g1.1, g2, g4⟩⟩
    · exact ⟨hd, _, res _ _, ⟨_, rfl⟩, .inr g⟩
  · exact ⟨h1.trans (nil h2), _, res _ _, ⟨_, rfl⟩, .inr h3⟩
end Go.Abs
/-
  gap.each$1: the gaps, one after another.
-/
namespace Go.Abs
set_option linter.unusedVariables false
set_option linter.unusedSimpArgs false
open Go.Proofs
set_option maxHeartbeats 4000000

def gapsF : Int → List Ar → List Ga
  | q, [] => if q < 2097152 then [⟨q, 2097152⟩] else []
  | q, a :: l => (if q < a.s then [⟨q, a.s⟩] else []) ++ gapsF a.e l

theorem YC.mono {P : Program} {te : Nat → Option TI} {N : Nat} {X : Cx P te N} {l : Nat} {c : Cmp} {H : Heap} {K K' : Heap → Prop} (h : YC X l c H K) (k : ∀ H', K H' → K' H') : YC X l c H K' := fun n ρ w v a b c => by
  obtain ⟨fn, tm, sg, bo, h1, h2⟩ := h n ρ w v a b c
  exact ⟨fn, tm, sg, bo, h1, h2.mono fun e w' ⟨d, ρ', H', r, le, x⟩ => ⟨d, ρ', H', r, le, x.imp (fun ⟨x1, x2, x3⟩ => ⟨x1, x2, k _ x3⟩) id⟩⟩

theorem each_c (l : List Ar) (hl : l.length < 100000) {H : Heap} {b : Nat} (hbn : b < H.n) (hb : H.m b = some { cells := [LV Ar.c l] }) : IterC Try.prog te Try.f88.ntmps 88 [(b, 0)] ((gapsF 65536 l).map fun g => .agg g.c) H := by
  refine iterC_of te_ok mix Try.func88 rfl rfl (by kernel_rfl) ?_
  intro X y J T hJ h0 hT hy
  refine wcl_seq (wc_of_vc (by kernel_rfl) ?_)
  repeat' (first | refine st ?_ | refine pblock_en rfl ?_ | (refine ss ?_; intro K_ hK_) | refine vops_gf rfl ?_ | refine vops_gt rfl ?_ | (refine sk ?_; intro k_ hk_; simp only [go_sem, simprocAttr]; (with_reducible first | refine hk_ _ _ ?_ | refine hk_ _ ?_); clear hk_ k_) | ((first | refine sg ?_ | refine sc ?_); intro x_ y_ hx_ hy_; simp only [go_sem, simprocAttr]; ((first | (with_reducible first | refine hx_ ?_ | refine hy_ ?_) | (with_reducible first | refine bI_split (fun h_ => hx_ ?_) (fun h_ => hy_ ?_) | refine bI_split (fun h_ => hy_ ?_) (fun h_ => hx_ ?_)) <;> try rw [h_]) <;> clear hx_ hy_ x_ y_)) | ((with_reducible first | refine hK_ _ _ ?_ | refine hK_ _ _ _ _ (Weak.refl _ _) ?_); clear hK_ K_) | clear hK_ K_)
  refine wcl_seq (wc_seq (wc_of_vc (by kernel_rfl) ?_))
  repeat' (first | refine st ?_ | refine pblock_en rfl ?_ | (refine ss ?_; intro K_ hK_) | refine vops_gf rfl ?_ | refine vops_gt rfl ?_ | (refine sk ?_; intro k_ hk_; simp only [go_sem, simprocAttr, hb]; (with_reducible first | refine hk_ _ _ ?_ | refine hk_ _ ?_); clear hk_ k_) | ((first | refine sg ?_ | refine sc ?_); intro x_ y_ hx_ hy_; simp only [go_sem, simprocAttr, hb]; ((first | (with_reducible first | refine hx_ ?_ | refine hy_ ?_) | (with_reducible first | refine bI_split (fun h_ => hx_ ?_) (fun h_ => hy_ ?_) | refine bI_split (fun h_ => hy_ ?_) (fun h_ => hx_ ?_)) <;> try rw [h_]) <;> clear hx_ hy_ x_ y_)) | ((with_reducible first | refine hK_ _ _ ?_ | refine hK_ _ _ _ _ (Weak.refl _ _) ?_); clear hK_ K_) | clear hK_ K_)
  refine wc_block (wc_range l.length (fun i σ' H' => ∃ q pre T', σ' 0 = .s (.raw (.func (.yield y) #[] #[])) ∧ σ' 3 = .s (I q) ∧ σ' 6 = .s (LV Ar.c l) ∧ σ' 7 = .s (I l.length) ∧ σ' 8 = .s (I i) ∧ gapsF 65536 l = pre ++ gapsF q (l.drop i) ∧ J pre.length T' H') ⟨65536, [], T, (by simp only [go_sem, simprocAttr, ]), (by simp only [go_sem, simprocAttr, ]), (by simp only [go_sem, simprocAttr, ]), (by simp only [go_sem, simprocAttr, ]), (by (try simp only [go_sem, simprocAttr, ]); first | done | exact rfl), rfl, h0⟩ ?_)
  rintro i σ' H' hi ⟨q, pre, T', s0, s3, s6, s7, s8, hq, hj⟩
  by_cases hil : i < l.length
  · have ha : l[i]? = some l[i] := List.getElem?_eq_getElem hil
    generalize l[i] = a at ha
    have g1 := FL_at ar_len ha
    have hd := drop_at ha
    rw [hd] at hq
    refine wc_seq (wc_of_vc (by kernel_rfl) ?_)
    repeat' (first | refine st ?_ | refine pblock_en rfl ?_ | (refine ss ?_; intro K_ hK_) | refine vops_gf rfl ?_ | refine vops_gt rfl ?_ | (refine sk ?_; intro k_ hk_; simp only [go_sem, simprocAttr, s8, s7, ilt hil]; (with_reducible first | refine hk_ _ _ ?_ | refine hk_ _ ?_); clear hk_ k_) | ((first | refine sg ?_ | refine sc ?_); intro x_ y_ hx_ hy_; simp only [go_sem, simprocAttr, s8, s7, ilt hil]; ((first | (with_reducible first | refine hx_ ?_ | refine hy_ ?_) | (with_reducible first | refine bI_split (fun h_ => hx_ ?_) (fun h_ => hy_ ?_) | refine bI_split (fun h_ => hy_ ?_) (fun h_ => hx_ ?_)) <;> try rw [h_]) <;> clear hx_ hy_ x_ y_)) | ((with_reducible first | refine hK_ _ _ ?_ | refine hK_ _ _ _ _ (Weak.refl _ _) ?_); clear hK_ K_) | clear hK_ K_)
    refine wc_seq (wc_of_vc (by kernel_rfl) ?_)
    repeat' (first | refine st ?_ | refine pblock_en rfl ?_ | (refine ss ?_; intro K_ hK_) | refine vops_gf rfl ?_ | refine vops_gt rfl ?_ | (refine sk ?_; intro k_ hk_; simp only [go_sem, simprocAttr]; (with_reducible first | refine hk_ _ _ ?_ | refine hk_ _ ?_); clear hk_ k_) | ((first | refine sg ?_ | refine sc ?_); intro x_ y_ hx_ hy_; simp only [go_sem, simprocAttr]; ((first | (with_reducible first | refine hx_ ?_ | refine hy_ ?_) | (with_reducible first | refine bI_split (fun h_ => hx_ ?_) (fun h_ => hy_ ?_) | refine bI_split (fun h_ => hy_ ?_) (fun h_ => hx_ ?_)) <;> try rw [h_]) <;> clear hx_ hy_ x_ y_)) | ((with_reducible first | refine hK_ _ _ ?_ | refine hK_ _ _ _ _ (Weak.refl _ _) ?_); clear hK_ K_) | clear hK_ K_)
    refine wc_seq (wc_block (wc_seq (wc_of_vc (by kernel_rfl) ?_)))
    repeat' (first | refine st ?_ | refine pblock_en rfl ?_ | (refine ss ?_; intro K_ hK_) | refine vops_gf rfl ?_ | refine vops_gt rfl ?_ | (refine sk ?_; intro k_ hk_; simp only [go_sem, simprocAttr, s0, s3, s6, s7, s8, ilt hil, g1]; (with_reducible first | refine hk_ _ _ ?_ | refine hk_ _ ?_); clear hk_ k_) | ((first | refine sg ?_ | refine sc ?_); intro x_ y_ hx_ hy_; simp only [go_sem, simprocAttr, s0, s3, s6, s7, s8, ilt hil, g1]; ((first | (with_reducible first | refine hx_ ?_ | refine hy_ ?_) | (with_reducible first | refine bI_split (fun h_ => hx_ ?_) (fun h_ => hy_ ?_) | refine bI_split (fun h_ => hy_ ?_) (fun h_ => hx_ ?_)) <;> try rw [h_]) <;> clear hx_ hy_ x_ y_)) | ((with_reducible first | refine hK_ _ _ ?_ | refine hK_ _ _ _ _ (Weak.refl _ _) ?_); clear hK_ K_) | clear hK_ K_)
    have hj1 : ∀ z, J pre.length T' ((H'.push z).set H'.n (some { cells := a.c })) := fun z => hJ.ext hj (by simp) (fun k hk => by have := hJ.lt hj k hk; rw [Heap.set_ne _ _ _ (by omega), Heap.push_ne _ _ (by omega)])
    by_cases hqa : q < a.s
    · have hi0 : ((gapsF 65536 l).map fun g => Cmp.agg g.c)[pre.length]? = some (.agg (Ga.c ⟨q, a.s⟩)) := by
        rw [hq, gapsF, if_pos hqa]; simp
      have hyc := fun z => hy _ _ _ _ hi0 (hj1 z)
      refine wc_seq (wc_yield (l := y) (pre := [_,_,_,_,_,_,_,_,_,_]) (post := [_,_]) (by kernel_rfl) rfl rfl (by kernel_rfl) ?_)
      unfold YOps
      repeat' (first | refine st ?_ | refine pblock_en rfl ?_ | (refine ss ?_; intro K_ hK_) | refine vops_gf rfl ?_ | refine vops_gt rfl ?_ | (refine sk ?_; intro k_ hk_; simp only [go_sem, simprocAttr, s0, s3, s6, s7, s8, eq_true hqa]; (with_reducible first | refine hk_ _ _ ?_ | refine hk_ _ ?_); clear hk_ k_) | ((first | refine sg ?_ | refine sc ?_); intro x_ y_ hx_ hy_; simp only [go_sem, simprocAttr, s0, s3, s6, s7, s8, eq_true hqa]; ((first | (with_reducible first | refine hx_ ?_ | refine hy_ ?_) | (with_reducible first | refine bI_split (fun h_ => hx_ ?_) (fun h_ => hy_ ?_) | refine bI_split (fun h_ => hy_ ?_) (fun h_ => hx_ ?_)) <;> try rw [h_]) <;> clear hx_ hy_ x_ y_)) | ((with_reducible first | refine hK_ _ _ ?_ | refine hK_ _ _ _ _ (Weak.refl _ _) ?_); clear hK_ K_) | clear hK_ K_)
      refine ⟨by simp [wantedA, go_sem], (by simp only [go_sem, simprocAttr, s0]), .agg (Ga.c ⟨q, a.s⟩), (by (try simp only [go_sem, simprocAttr, s3]); first | done | exact rfl), (hyc _).mono ?_, fun H2 => ?_⟩
      · rintro H2 ⟨hn2, hkeep, T2, hj2, _⟩
        have hm2 : H2.m H'.n = some { cells := a.c } := (hkeep _ (by simp) fun hk => by have := hJ.lt hj _ hk; omega).trans (Heap.set_same _ _ _)
        repeat' (first | refine st ?_ | refine pblock_en rfl ?_ | (refine ss ?_; intro K_ hK_) | refine vops_gf rfl ?_ | refine vops_gt rfl ?_ | (refine sk ?_; intro k_ hk_; simp only [go_sem, simprocAttr, s0, s3, s6, s7, s8]; (with_reducible first | refine hk_ _ _ ?_ | refine hk_ _ ?_); clear hk_ k_) | ((first | refine sg ?_ | refine sc ?_); intro x_ y_ hx_ hy_; simp only [go_sem, simprocAttr, s0, s3, s6, s7, s8]; ((first | (with_reducible first | refine hx_ ?_ | refine hy_ ?_) | (with_reducible first | refine bI_split (fun h_ => hx_ ?_) (fun h_ => hy_ ?_) | refine bI_split (fun h_ => hy_ ?_) (fun h_ => hx_ ?_)) <;> try rw [h_]) <;> clear hx_ hy_ x_ y_)) | ((with_reducible first | refine hK_ _ _ ?_ | refine hK_ _ _ _ _ (Weak.refl _ _) ?_); clear hK_ K_) | clear hK_ K_)
        refine wc_of_vc (by kernel_rfl) ?_
        repeat' (first | refine st ?_ | refine pblock_en rfl ?_ | (refine ss ?_; intro K_ hK_) | refine vops_gf rfl ?_ | refine vops_gt rfl ?_ | (refine sk ?_; intro k_ hk_; simp only [go_sem, simprocAttr]; (with_reducible first | refine hk_ _ _ ?_ | refine hk_ _ ?_); clear hk_ k_) | ((first | refine sg ?_ | refine sc ?_); intro x_ y_ hx_ hy_; simp only [go_sem, simprocAttr]; ((first | (with_reducible first | refine hx_ ?_ | refine hy_ ?_) | (with_reducible first | refine bI_split (fun h_ => hx_ ?_) (fun h_ => hy_ ?_) | refine bI_split (fun h_ => hy_ ?_) (fun h_ => hx_ ?_)) <;> try rw [h_]) <;> clear hx_ hy_ x_ y_)) | ((with_reducible first | refine hK_ _ _ ?_ | refine hK_ _ _ _ _ (Weak.refl _ _) ?_); clear hK_ K_) | clear hK_ K_)
        refine wc_of_vc (by kernel_rfl) ?_
        repeat' (first | refine st ?_ | refine pblock_en rfl ?_ | (refine ss ?_; intro K_ hK_) | refine vops_gf rfl ?_ | refine vops_gt rfl ?_ | (refine sk ?_; intro k_ hk_; simp only [go_sem, simprocAttr, hm2]; (with_reducible first | refine hk_ _ _ ?_ | refine hk_ _ ?_); clear hk_ k_) | ((first | refine sg ?_ | refine sc ?_); intro x_ y_ hx_ hy_; simp only [go_sem, simprocAttr, hm2]; ((first | (with_reducible first | refine hx_ ?_ | refine hy_ ?_) | (with_reducible first | refine bI_split (fun h_ => hx_ ?_) (fun h_ => hy_ ?_) | refine bI_split (fun h_ => hy_ ?_) (fun h_ => hx_ ?_)) <;> try rw [h_]) <;> clear hx_ hy_ x_ y_)) | ((with_reducible first | refine hK_ _ _ ?_ | refine hK_ _ _ _ _ (Weak.refl _ _) ?_); clear hK_ K_) | clear hK_ K_)
        refine wc_of_vc (by kernel_rfl) ?_
        repeat' (first | refine st ?_ | refine pblock_en rfl ?_ | (refine ss ?_; intro K_ hK_) | refine vops_gf rfl ?_ | refine vops_gt rfl ?_ | (refine sk ?_; intro k_ hk_; simp only [go_sem, simprocAttr, s8, wrap_succ (n := i) (by omega)]; (with_reducible first | refine hk_ _ _ ?_ | refine hk_ _ ?_); clear hk_ k_) | ((first | refine sg ?_ | refine sc ?_); intro x_ y_ hx_ hy_; simp only [go_sem, simprocAttr, s8, wrap_succ (n := i) (by omega)]; ((first | (with_reducible first | refine hx_ ?_ | refine hy_ ?_) | (with_reducible first | refine bI_split (fun h_ => hx_ ?_) (fun h_ => hy_ ?_) | refine bI_split (fun h_ => hy_ ?_) (fun h_ => hx_ ?_)) <;> try rw [h_]) <;> clear hx_ hy_ x_ y_)) | ((with_reducible first | refine hK_ _ _ ?_ | refine hK_ _ _ _ _ (Weak.refl _ _) ?_); clear hK_ K_) | clear hK_ K_)
        exact ⟨hil, a.e, pre ++ [⟨q, a.s⟩], T2, (by simp only [go_sem, simprocAttr, s0]), (by (try simp only [go_sem, simprocAttr, ]); first | done | exact rfl), (by simp only [go_sem, simprocAttr, s6]), (by simp only [go_sem, simprocAttr, s7]), (by simp only [go_sem, simprocAttr, ]), by rw [hq, gapsF, if_pos hqa]; simp, by simpa using hj2⟩
      · repeat' (first | refine st ?_ | refine pblock_en rfl ?_ | (refine ss ?_; intro K_ hK_) | refine vops_gf rfl ?_ | refine vops_gt rfl ?_ | (refine sk ?_; intro k_ hk_; simp only [go_sem, simprocAttr, s0, s3, s6, s7, s8]; (with_reducible first | refine hk_ _ _ ?_ | refine hk_ _ ?_); clear hk_ k_) | ((first | refine sg ?_ | refine sc ?_); intro x_ y_ hx_ hy_; simp only [go_sem, simprocAttr, s0, s3, s6, s7, s8]; ((first | (with_reducible first | refine hx_ ?_ | refine hy_ ?_) | (with_reducible first | refine bI_split (fun h_ => hx_ ?_) (fun h_ => hy_ ?_) | refine bI_split (fun h_ => hy_ ?_) (fun h_ => hx_ ?_)) <;> try rw [h_]) <;> clear hx_ hy_ x_ y_)) | ((with_reducible first | refine hK_ _ _ ?_ | refine hK_ _ _ _ _ (Weak.refl _ _) ?_); clear hK_ K_) | clear hK_ K_)
        refine ⟨rfl, ?_⟩
        repeat' (first | refine st ?_ | refine pblock_en rfl ?_ | (refine ss ?_; intro K_ hK_) | refine vops_gf rfl ?_ | refine vops_gt rfl ?_ | (refine sk ?_; intro k_ hk_; simp only [go_sem, simprocAttr]; (with_reducible first | refine hk_ _ _ ?_ | refine hk_ _ ?_); clear hk_ k_) | ((first | refine sg ?_ | refine sc ?_); intro x_ y_ hx_ hy_; simp only [go_sem, simprocAttr]; ((first | (with_reducible first | refine hx_ ?_ | refine hy_ ?_) | (with_reducible first | refine bI_split (fun h_ => hx_ ?_) (fun h_ => hy_ ?_) | refine bI_split (fun h_ => hy_ ?_) (fun h_ => hx_ ?_)) <;> try rw [h_]) <;> clear hx_ hy_ x_ y_)) | ((with_reducible first | refine hK_ _ _ ?_ | refine hK_ _ _ _ _ (Weak.refl _ _) ?_); clear hK_ K_) | clear hK_ K_)
        exact ⟨rfl, rfl⟩
    · refine wc_seq (wc_of_vc (by kernel_rfl) ?_)
      repeat' (first | refine st ?_ | refine pblock_en rfl ?_ | (refine ss ?_; intro K_ hK_) | refine vops_gf rfl ?_ | refine vops_gt rfl ?_ | (refine sk ?_; intro k_ hk_; simp only [go_sem, simprocAttr, s0, s3, s6, s7, s8, eq_false hqa]; (with_reducible first | refine hk_ _ _ ?_ | refine hk_ _ ?_); clear hk_ k_) | ((first | refine sg ?_ | refine sc ?_); intro x_ y_ hx_ hy_; simp only [go_sem, simprocAttr, s0, s3, s6, s7, s8, eq_false hqa]; ((first | (with_reducible first | refine hx_ ?_ | refine hy_ ?_) | (with_reducible first | refine bI_split (fun h_ => hx_ ?_) (fun h_ => hy_ ?_) | refine bI_split (fun h_ => hy_ ?_) (fun h_ => hx_ ?_)) <;> try rw [h_]) <;> clear hx_ hy_ x_ y_)) | ((with_reducible first | refine hK_ _ _ ?_ | refine hK_ _ _ _ _ (Weak.refl _ _) ?_); clear hK_ K_) | clear hK_ K_)
      refine wc_of_vc (by kernel_rfl) ?_
      repeat' (first | refine st ?_ | refine pblock_en rfl ?_ | (refine ss ?_; intro K_ hK_) | refine vops_gf rfl ?_ | refine vops_gt rfl ?_ | (refine sk ?_; intro k_ hk_; simp only [go_sem, simprocAttr, s0, s3, s6, s7, s8]; (with_reducible first | refine hk_ _ _ ?_ | refine hk_ _ ?_); clear hk_ k_) | ((first | refine sg ?_ | refine sc ?_); intro x_ y_ hx_ hy_; simp only [go_sem, simprocAttr, s0, s3, s6, s7, s8]; ((first | (with_reducible first | refine hx_ ?_ | refine hy_ ?_) | (with_reducible first | refine bI_split (fun h_ => hx_ ?_) (fun h_ => hy_ ?_) | refine bI_split (fun h_ => hy_ ?_) (fun h_ => hx_ ?_)) <;> try rw [h_]) <;> clear hx_ hy_ x_ y_)) | ((with_reducible first | refine hK_ _ _ ?_ | refine hK_ _ _ _ _ (Weak.refl _ _) ?_); clear hK_ K_) | clear hK_ K_)
      refine wc_of_vc (by kernel_rfl) ?_
      repeat' (first | refine st ?_ | refine pblock_en rfl ?_ | (refine ss ?_; intro K_ hK_) | refine vops_gf rfl ?_ | refine vops_gt rfl ?_ | (refine sk ?_; intro k_ hk_; simp only [go_sem, simprocAttr, s8, wrap_succ (n := i) (by omega)]; (with_reducible first | refine hk_ _ _ ?_ | refine hk_ _ ?_); clear hk_ k_) | ((first | refine sg ?_ | refine sc ?_); intro x_ y_ hx_ hy_; simp only [go_sem, simprocAttr, s8, wrap_succ (n := i) (by omega)]; ((first | (with_reducible first | refine hx_ ?_ | refine hy_ ?_) | (with_reducible first | refine bI_split (fun h_ => hx_ ?_) (fun h_ => hy_ ?_) | refine bI_split (fun h_ => hy_ ?_) (fun h_ => hx_ ?_)) <;> try rw [h_]) <;> clear hx_ hy_ x_ y_)) | ((with_reducible first | refine hK_ _ _ ?_ | refine hK_ _ _ _ _ (Weak.refl _ _) ?_); clear hK_ K_) | clear hK_ K_)
      exact ⟨hil, a.e, pre, T', (by simp only [go_sem, simprocAttr, s0]), (by (try simp only [go_sem, simprocAttr, ]); first | done | exact rfl), (by simp only [go_sem, simprocAttr, s6]), (by simp only [go_sem, simprocAttr, s7]), (by simp only [go_sem, simprocAttr, ]), by rw [hq, gapsF, if_neg hqa]; simp, hj1 _⟩
  · refine wc_seq (wc_of_vc (by kernel_rfl) ?_)
    repeat' (first | refine st ?_ | refine pblock_en rfl ?_ | (refine ss ?_; intro K_ hK_) | refine vops_gf rfl ?_ | refine vops_gt rfl ?_ | (refine sk ?_; intro k_ hk_; simp only [go_sem, simprocAttr, s8, s7, ige hil]; (with_reducible first | refine hk_ _ _ ?_ | refine hk_ _ ?_); clear hk_ k_) | ((first | refine sg ?_ | refine sc ?_); intro x_ y_ hx_ hy_; simp only [go_sem, simprocAttr, s8, s7, ige hil]; ((first | (with_reducible first | refine hx_ ?_ | refine hy_ ?_) | (with_reducible first | refine bI_split (fun h_ => hx_ ?_) (fun h_ => hy_ ?_) | refine bI_split (fun h_ => hy_ ?_) (fun h_ => hx_ ?_)) <;> try rw [h_]) <;> clear hx_ hy_ x_ y_)) | ((with_reducible first | refine hK_ _ _ ?_ | refine hK_ _ _ _ _ (Weak.refl _ _) ?_); clear hK_ K_) | clear hK_ K_)
    refine wc_seq (wc_of_vc (by kernel_rfl) ?_)
    repeat' (first | refine st ?_ | refine pblock_en rfl ?_ | (refine ss ?_; intro K_ hK_) | refine vops_gf rfl ?_ | refine vops_gt rfl ?_ | (refine sk ?_; intro k_ hk_; simp only [go_sem, simprocAttr]; (with_reducible first | refine hk_ _ _ ?_ | refine hk_ _ ?_); clear hk_ k_) | ((first | refine sg ?_ | refine sc ?_); intro x_ y_ hx_ hy_; simp only [go_sem, simprocAttr]; ((first | (with_reducible first | refine hx_ ?_ | refine hy_ ?_) | (with_reducible first | refine bI_split (fun h_ => hx_ ?_) (fun h_ => hy_ ?_) | refine bI_split (fun h_ => hy_ ?_) (fun h_ => hx_ ?_)) <;> try rw [h_]) <;> clear hx_ hy_ x_ y_)) | ((with_reducible first | refine hK_ _ _ ?_ | refine hK_ _ _ _ _ (Weak.refl _ _) ?_); clear hK_ K_) | clear hK_ K_)
    have hie : i = l.length := by omega
    subst hie
    rw [List.drop_length, gapsF] at hq
    refine wcl_seq (wc_of_vc (by kernel_rfl) ?_)
    by_cases hqe : q < 2097152
    · have hi0 : ((gapsF 65536 l).map fun g => Cmp.agg g.c)[pre.length]? = some (.agg (Ga.c ⟨q, 2097152⟩)) := by
        rw [hq, if_pos hqe]; simp
      have hyc := hy _ _ _ _ hi0 hj
      repeat' (first | refine st ?_ | refine pblock_en rfl ?_ | (refine ss ?_; intro K_ hK_) | refine vops_gf rfl ?_ | refine vops_gt rfl ?_ | (refine sk ?_; intro k_ hk_; simp only [go_sem, simprocAttr, s0, s3, eq_true hqe]; (with_reducible first | refine hk_ _ _ ?_ | refine hk_ _ ?_); clear hk_ k_) | ((first | refine sg ?_ | refine sc ?_); intro x_ y_ hx_ hy_; simp only [go_sem, simprocAttr, s0, s3, eq_true hqe]; ((first | (with_reducible first | refine hx_ ?_ | refine hy_ ?_) | (with_reducible first | refine bI_split (fun h_ => hx_ ?_) (fun h_ => hy_ ?_) | refine bI_split (fun h_ => hy_ ?_) (fun h_ => hx_ ?_)) <;> try rw [h_]) <;> clear hx_ hy_ x_ y_)) | ((with_reducible first | refine hK_ _ _ ?_ | refine hK_ _ _ _ _ (Weak.refl _ _) ?_); clear hK_ K_) | clear hK_ K_)
      refine wcl_cond (b := true) (by kernel_rfl) (by (try simp only [go_sem, simprocAttr, ]); first | done | exact rfl) ?_
      rw [if_pos rfl]
      refine wcl_yield (l := y) (pre := [_,_,_]) (post := []) (by kernel_rfl) rfl rfl ?_
      unfold YOps
      repeat' (first | refine st ?_ | refine pblock_en rfl ?_ | (refine ss ?_; intro K_ hK_) | refine vops_gf rfl ?_ | refine vops_gt rfl ?_ | (refine sk ?_; intro k_ hk_; simp only [go_sem, simprocAttr, s0, s3]; (with_reducible first | refine hk_ _ _ ?_ | refine hk_ _ ?_); clear hk_ k_) | ((first | refine sg ?_ | refine sc ?_); intro x_ y_ hx_ hy_; simp only [go_sem, simprocAttr, s0, s3]; ((first | (with_reducible first | refine hx_ ?_ | refine hy_ ?_) | (with_reducible first | refine bI_split (fun h_ => hx_ ?_) (fun h_ => hy_ ?_) | refine bI_split (fun h_ => hy_ ?_) (fun h_ => hx_ ?_)) <;> try rw [h_]) <;> clear hx_ hy_ x_ y_)) | ((with_reducible first | refine hK_ _ _ ?_ | refine hK_ _ _ _ _ (Weak.refl _ _) ?_); clear hK_ K_) | clear hK_ K_)
      refine ⟨by simp [wantedA, go_sem], (by simp only [go_sem, simprocAttr, s0]), .agg (Ga.c ⟨q, 2097152⟩), (by (try simp only [go_sem, simprocAttr, s3]); first | done | exact rfl), hyc.mono ?_, fun H2 => ?_⟩
      · rintro H2 ⟨_, _, T2, hj2, _⟩
        repeat' (first | refine st ?_ | refine pblock_en rfl ?_ | (refine ss ?_; intro K_ hK_) | refine vops_gf rfl ?_ | refine vops_gt rfl ?_ | (refine sk ?_; intro k_ hk_; simp only [go_sem, simprocAttr]; (with_reducible first | refine hk_ _ _ ?_ | refine hk_ _ ?_); clear hk_ k_) | ((first | refine sg ?_ | refine sc ?_); intro x_ y_ hx_ hy_; simp only [go_sem, simprocAttr]; ((first | (with_reducible first | refine hx_ ?_ | refine hy_ ?_) | (with_reducible first | refine bI_split (fun h_ => hx_ ?_) (fun h_ => hy_ ?_) | refine bI_split (fun h_ => hy_ ?_) (fun h_ => hx_ ?_)) <;> try rw [h_]) <;> clear hx_ hy_ x_ y_)) | ((with_reducible first | refine hK_ _ _ ?_ | refine hK_ _ _ _ _ (Weak.refl _ _) ?_); clear hK_ K_) | clear hK_ K_)
        exact ⟨.inl rfl, T2, by rw [hq, if_pos hqe]; simpa using hj2⟩
      · repeat' (first | refine st ?_ | refine pblock_en rfl ?_ | (refine ss ?_; intro K_ hK_) | refine vops_gf rfl ?_ | refine vops_gt rfl ?_ | (refine sk ?_; intro k_ hk_; simp only [go_sem, simprocAttr]; (with_reducible first | refine hk_ _ _ ?_ | refine hk_ _ ?_); clear hk_ k_) | ((first | refine sg ?_ | refine sc ?_); intro x_ y_ hx_ hy_; simp only [go_sem, simprocAttr]; ((first | (with_reducible first | refine hx_ ?_ | refine hy_ ?_) | (with_reducible first | refine bI_split (fun h_ => hx_ ?_) (fun h_ => hy_ ?_) | refine bI_split (fun h_ => hy_ ?_) (fun h_ => hx_ ?_)) <;> try rw [h_]) <;> clear hx_ hy_ x_ y_)) | ((with_reducible first | refine hK_ _ _ ?_ | refine hK_ _ _ _ _ (Weak.refl _ _) ?_); clear hK_ K_) | clear hK_ K_)
        rfl
    · repeat' (first | refine st ?_ | refine pblock_en rfl ?_ | (refine ss ?_; intro K_ hK_) | refine vops_gf rfl ?_ | refine vops_gt rfl ?_ | (refine sk ?_; intro k_ hk_; simp only [go_sem, simprocAttr, s0, s3, eq_false hqe]; (with_reducible first | refine hk_ _ _ ?_ | refine hk_ _ ?_); clear hk_ k_) | ((first | refine sg ?_ | refine sc ?_); intro x_ y_ hx_ hy_; simp only [go_sem, simprocAttr, s0, s3, eq_false hqe]; ((first | (with_reducible first | refine hx_ ?_ | refine hy_ ?_) | (with_reducible first | refine bI_split (fun h_ => hx_ ?_) (fun h_ => hy_ ?_) | refine bI_split (fun h_ => hy_ ?_) (fun h_ => hx_ ?_)) <;> try rw [h_]) <;> clear hx_ hy_ x_ y_)) | ((with_reducible first | refine hK_ _ _ ?_ | refine hK_ _ _ _ _ (Weak.refl _ _) ?_); clear hK_ K_) | clear hK_ K_)
      refine wcl_cond (b := false) (by kernel_rfl) (by (try simp only [go_sem, simprocAttr, ]); first | done | exact rfl) ?_
      rw [if_neg (by decide)]
      refine wcl_of_wc (wc_of_vc rfl ?_)
      repeat' (first | refine st ?_ | refine pblock_en rfl ?_ | (refine ss ?_; intro K_ hK_) | refine vops_gf rfl ?_ | refine vops_gt rfl ?_ | (refine sk ?_; intro k_ hk_; simp only [go_sem, simprocAttr]; (with_reducible first | refine hk_ _ _ ?_ | refine hk_ _ ?_); clear hk_ k_) | ((first | refine sg ?_ | refine sc ?_); intro x_ y_ hx_ hy_; simp only [go_sem, simprocAttr]; ((first | (with_reducible first | refine hx_ ?_ | refine hy_ ?_) | (with_reducible first | refine bI_split (fun h_ => hx_ ?_) (fun h_ => hy_ ?_) | refine bI_split (fun h_ => hy_ ?_) (fun h_ => hx_ ?_)) <;> try rw [h_]) <;> clear hx_ hy_ x_ y_)) | ((with_reducible first | refine hK_ _ _ ?_ | refine hK_ _ _ _ _ (Weak.refl _ _) ?_); clear hK_ K_) | clear hK_ K_)
      exact ⟨.inl rfl, T', by rw [hq, if_neg hqe]; simpa using hj⟩
end Go.Abs
/-
  gap: the small functions.
-/
namespace Go.Abs
set_option linter.unusedVariables false
set_option linter.unusedSimpArgs false
open Go.Proofs
set_option maxHeartbeats 4000000

def gsizeS (n : Int) : Bool := decide (n ≥ 1) && (n.tmod 4096 == 0) && decide (n ≤ 2031616)
theorem gsize_c (n : Int) (H : Heap) : ACalls Try.prog 76 [.s (I n)] H (.s (Bo (gsizeS n))) H := by
  refine acalls_pure te_ok mix Try.func76 rfl Try.call76 (by kernel_rfl) (by kernel_rfl) rfl rfl ?_; simp only [Try.results76]
  repeat' (first | refine st ?_ | refine pblock_en rfl ?_ | (refine ss ?_; intro K_ hK_) | refine vops_gf rfl ?_ | refine vops_gt rfl ?_ | (refine sk ?_; intro k_ hk_; simp only [go_sem, simprocAttr]; (with_reducible first | refine hk_ _ _ ?_ | refine hk_ _ ?_); clear hk_ k_) | ((first | refine sg ?_ | refine sc ?_); intro x_ y_ hx_ hy_; simp only [go_sem, simprocAttr]; ((first | (with_reducible first | refine hx_ ?_ | refine hy_ ?_) | (with_reducible first | refine bI_split (fun h_ => hx_ ?_) (fun h_ => hy_ ?_) | refine bI_split (fun h_ => hy_ ?_) (fun h_ => hx_ ?_)) <;> try rw [h_]) <;> clear hx_ hy_ x_ y_)) | ((with_reducible first | refine hK_ _ _ ?_ | refine hK_ _ _ _ _ (Weak.refl _ _) ?_); clear hK_ K_) | clear hK_ K_)
  all_goals exact ⟨by first | (simp_all [gsizeS]; done) | (simp_all [gsizeS]; omega), hxt⟩
theorem up_c (n : Int) (h0 : 0 ≤ n) (h1 : n ≤ 2097152) (H : Heap) : ACalls Try.prog 89 [.s (I n)] H (.s (I ((n + 4095) / 4096 * 4096))) H := by
  refine acalls_pure te_ok mix Try.func89 rfl Try.call89 (by kernel_rfl) (by kernel_rfl) rfl rfl ?_; simp only [Try.results89]
  have e : IntKind.i64.wrap (IntKind.i64.wrap ((IntKind.i64.wrap (IntKind.i64.wrap (n + 4096) - 1)).tdiv 4096) * 4096) = (n + 4095) / 4096 * 4096 := by
    rw [wrap_id (n := n + 4096) (by omega) (by omega), wrap_id (n := n + 4096 - 1) (by omega) (by omega), Int.tdiv_eq_ediv_of_nonneg (by omega), wrap_id (n := (n + 4096 - 1) / 4096) (by omega) (by omega), wrap_id (by omega) (by omega)]
    omega
  repeat' (first | refine st ?_ | refine pblock_en rfl ?_ | (refine ss ?_; intro K_ hK_) | refine vops_gf rfl ?_ | refine vops_gt rfl ?_ | (refine sk ?_; intro k_ hk_; simp only [go_sem, simprocAttr, e]; (with_reducible first | refine hk_ _ _ ?_ | refine hk_ _ ?_); clear hk_ k_) | ((first | refine sg ?_ | refine sc ?_); intro x_ y_ hx_ hy_; simp only [go_sem, simprocAttr, e]; ((first | (with_reducible first | refine hx_ ?_ | refine hy_ ?_) | (with_reducible first | refine bI_split (fun h_ => hx_ ?_) (fun h_ => hy_ ?_) | refine bI_split (fun h_ => hy_ ?_) (fun h_ => hx_ ?_)) <;> try rw [h_]) <;> clear hx_ hy_ x_ y_)) | ((with_reducible first | refine hK_ _ _ ?_ | refine hK_ _ _ _ _ (Weak.refl _ _) ?_); clear hK_ K_) | clear hK_ K_)
  exact ⟨rfl, hxt⟩
theorem down_c (n : Int) (h0 : 0 ≤ n) (h1 : n ≤ 2097152) (H : Heap) : ACalls Try.prog 90 [.s (I n)] H (.s (I (n / 4096 * 4096))) H := by
  refine acalls_pure te_ok mix Try.func90 rfl Try.call90 (by kernel_rfl) (by kernel_rfl) rfl rfl ?_; simp only [Try.results90]
  have e : IntKind.i64.wrap (IntKind.i64.wrap (n.tdiv 4096) * 4096) = n / 4096 * 4096 := by
    rw [Int.tdiv_eq_ediv_of_nonneg (by omega), wrap_id (n := n / 4096) (by omega) (by omega), wrap_id (by omega) (by omega)]
  repeat' (first | refine st ?_ | refine pblock_en rfl ?_ | (refine ss ?_; intro K_ hK_) | refine vops_gf rfl ?_ | refine vops_gt rfl ?_ | (refine sk ?_; intro k_ hk_; simp only [go_sem, simprocAttr, e]; (with_reducible first | refine hk_ _ _ ?_ | refine hk_ _ ?_); clear hk_ k_) | ((first | refine sg ?_ | refine sc ?_); intro x_ y_ hx_ hy_; simp only [go_sem, simprocAttr, e]; ((first | (with_reducible first | refine hx_ ?_ | refine hy_ ?_) | (with_reducible first | refine bI_split (fun h_ => hx_ ?_) (fun h_ => hy_ ?_) | refine bI_split (fun h_ => hy_ ?_) (fun h_ => hx_ ?_)) <;> try rw [h_]) <;> clear hx_ hy_ x_ y_)) | ((with_reducible first | refine hK_ _ _ ?_ | refine hK_ _ _ _ _ (Weak.refl _ _) ?_); clear hK_ K_) | clear hK_ K_)
  exact ⟨rfl, hxt⟩

def clampS (x : Int) : Int := if 2097152 < (if 65536 > x then 65536 else x) then 2097152 else (if 65536 > x then 65536 else x)
theorem clamp_le (x : Int) : 65536 ≤ clampS x ∧ clampS x ≤ 2097152 := by unfold clampS; split <;> split <;> omega
def ginS (g : Ga) (lo hi : Int) : Ga :=
  ⟨if (clampS lo + 4095) / 4096 * 4096 > g.s then (clampS lo + 4095) / 4096 * 4096 else g.s, if clampS hi / 4096 * 4096 < g.e then clampS hi / 4096 * 4096 else g.e⟩
theorem in_c (g : Ga) (lo hi : Int) (H : Heap) : ACalls Try.prog 79 [.agg g.c, .s (I lo), .s (I hi)] H (.agg (ginS g lo hi).c) H := by
  have u := fun H => up_c (clampS lo) (by have := clamp_le lo; omega) (clamp_le lo).2 H
  have d := fun H => down_c (clampS hi) (by have := clamp_le hi; omega) (clamp_le hi).2 H
  have f1 : imin (imax lo 65536) 2097152 = clampS lo := rfl
  have f2 : imin (imax hi 65536) 2097152 = clampS hi := rfl
  refine acalls_pure te_ok mix Try.func79 rfl Try.call79 (by kernel_rfl) (by kernel_rfl) rfl rfl ?_; simp only [Try.results79]
  repeat' (first | refine st ?_ | refine pblock_en rfl ?_ | (refine ss ?_; intro K_ hK_) | refine vc_draw' (by kernel_rfl) fun K_ hK_ => ?_ | refine vops_gf rfl ?_ | refine vops_gt rfl ?_ | refine vd_gf rfl ?_ | refine vd_gt rfl ?_ | (refine sk ?_; intro k_ hk_; simp only [go_sem, simprocAttr, f1, f2]; (with_reducible first | refine hk_ _ _ ?_ | refine hk_ _ ?_ | refine hk_ _ _ (by (first | exact HExtR.refl _ | (refine HExtR.push ?_; first | rfl | simp only [go_sem, f1, f2]))) ?_); clear hk_ k_) | ((first | refine sg ?_ | refine sc ?_); intro x_ y_ hx_ hy_; simp only [go_sem, simprocAttr, f1, f2]; ((first | (with_reducible first | refine hx_ ?_ | refine hy_ ?_) | (with_reducible first | refine bI_split (fun h_ => hx_ ?_) (fun h_ => hy_ ?_) | refine bI_split (fun h_ => hy_ ?_) (fun h_ => hx_ ?_)) <;> try rw [h_]) <;> clear hx_ hy_ x_ y_)) | (with_reducible first | refine callv_pure (u _) ?_ | refine callv_pure (d _) ?_ | refine vcalld_pure (u _) ?_ | refine vcalld_pure (d _) ?_) | ((with_reducible first | refine hK_ _ _ ?_ | refine hK_ _ _ _ _ (Weak.refl _ _) ?_); clear hK_ K_) | clear hK_ K_)
  exact ⟨rfl, hxt⟩
end Go.Abs
/-
  gap.each, Lowest, Highest.
-/
namespace Go.Abs
set_option linter.unusedVariables false
set_option linter.unusedSimpArgs false
open Go.Proofs
set_option maxHeartbeats 4000000

theorem each0_c (l : List Ar) (H : Heap) : ACallsR Try.prog 78 [.s (LV Ar.c l)] H (fun r H' => r = .s (.fn 88 [(H.n, 0)]) ∧ HExt H H' ∧ H.n < H'.n ∧ H'.m H.n = some { cells := [LV Ar.c l] }) := by
  refine acalls_of te_ok mix Try.func78 rfl Try.call78 (by kernel_rfl) (by kernel_rfl) rfl ?_; simp only [Try.results78]
  repeat' (first | refine st ?_ | refine pblock_en rfl ?_ | (refine ss ?_; intro K_ hK_) | refine vops_gf rfl ?_ | refine vops_gt rfl ?_ | (refine sk ?_; intro k_ hk_; simp only [go_sem, simprocAttr]; (with_reducible first | refine hk_ _ _ ?_ | refine hk_ _ ?_); clear hk_ k_) | ((first | refine sg ?_ | refine sc ?_); intro x_ y_ hx_ hy_; simp only [go_sem, simprocAttr]; ((first | (with_reducible first | refine hx_ ?_ | refine hy_ ?_) | (with_reducible first | refine bI_split (fun h_ => hx_ ?_) (fun h_ => hy_ ?_) | refine bI_split (fun h_ => hy_ ?_) (fun h_ => hx_ ?_)) <;> try rw [h_]) <;> clear hx_ hy_ x_ y_)) | ((with_reducible first | refine hK_ _ _ ?_ | refine hK_ _ _ _ _ (Weak.refl _ _) ?_); clear hK_ K_) | clear hK_ K_)
  exact ⟨rfl, hxt, by simp, by simp [push_m, set_m]⟩

def highStep (lo hi n : Int) (r : Int × Bool) (g : Ga) : Int × Bool :=
  if wr ((ginS g lo hi).e - (ginS g lo hi).s) ≥ n then (wr ((ginS g lo hi).e - n), true) else r
def highestS (l : List Ar) (lo hi n : Int) : Int × Bool := if gsizeS n && right l then (gapsF 65536 l).foldl (highStep lo hi n) (0, false) else (0, false)
def lowS (lo hi n : Int) : List Ga → Int × Bool
  | [] => (0, false)
  | g :: l => if wr ((ginS g lo hi).e - (ginS g lo hi).s) ≥ n then ((ginS g lo hi).s, true) else lowS lo hi n l
def lowestS (l : List Ar) (lo hi n : Int) : Int × Bool := if gsizeS n && right l then lowS lo hi n (gapsF 65536 l) else (0, false)

theorem ga_setz (g : Ga) : setAll [.raw (.int .i64 0), .raw (.int .i64 0)] 0 g.c = g.c := rfl
attribute [go_sem] ga_setz
theorem gaps_at {l : List Ar} {i : Nat} {c : Cmp} (h : ((gapsF 65536 l).map fun g => Cmp.agg g.c)[i]? = some c) : ∃ g, (gapsF 65536 l)[i]? = some g ∧ c = .agg g.c := by
  rw [List.getElem?_map] at h
  obtain ⟨g, h1, h2⟩ := Option.map_eq_some_iff.1 h
  exact ⟨g, h1, h2.symm⟩

theorem highest_c (l : List Ar) (hl : l.length < 100000) (lo hi n : Int) (H : Heap) : ACalls Try.prog 51 [.s (LV Ar.c l), .s (I lo), .s (I hi), .s (I n)] H (.tup [.s (I (highestS l lo hi n).1), .s (Bo (highestS l lo hi n).2)]) H := by
  have hl' : l.length < 1000000 := by omega
  refine acalls_gc ?_
  refine acalls_of_wc te_ok mix Try.func51 rfl Try.call51 (by kernel_rfl) rfl ?_
  intro X hX
  simp only [Try.results51]
  refine wc_seq (wc_of_vc (by kernel_rfl) ?_)
  repeat' (first | refine st ?_ | refine pblock_en rfl ?_ | (refine ss ?_; intro K_ hK_) | refine vc_draw' (by kernel_rfl) fun K_ hK_ => ?_ | refine vops_gf rfl ?_ | refine vops_gt rfl ?_ | refine vd_gf rfl ?_ | refine vd_gt rfl ?_ | (refine sk ?_; intro k_ hk_; simp only [go_sem, simprocAttr]; (with_reducible first | refine hk_ _ _ ?_ | refine hk_ _ ?_ | refine hk_ _ _ (by (first | exact HExtR.refl _ | (refine HExtR.push ?_; first | rfl | simp only [go_sem]))) ?_); clear hk_ k_) | ((first | refine sg ?_ | refine sc ?_); intro x_ y_ hx_ hy_; simp only [go_sem, simprocAttr]; ((first | (with_reducible first | refine hx_ ?_ | refine hy_ ?_) | (with_reducible first | refine bI_split (fun h_ => hx_ ?_) (fun h_ => hy_ ?_) | refine bI_split (fun h_ => hy_ ?_) (fun h_ => hx_ ?_)) <;> try rw [h_]) <;> clear hx_ hy_ x_ y_)) | ((with_reducible first | refine hK_ _ _ ?_ | refine hK_ _ _ _ _ (Weak.refl _ _) ?_); clear hK_ K_) | clear hK_ K_)
  refine wc_seq (wc_seq (wc_of_vc (by kernel_rfl) ?_))
  by_cases hok : (gsizeS n && right l) = true
  case neg =>
    have e : highestS l lo hi n = (0, false) := by unfold highestS; rw [if_neg hok]
    rw [e]
    repeat' (first | refine st ?_ | refine pblock_en rfl ?_ | (refine ss ?_; intro K_ hK_) | refine vc_draw' (by kernel_rfl) fun K_ hK_ => ?_ | refine vops_gf rfl ?_ | refine vops_gt rfl ?_ | refine vd_gf rfl ?_ | refine vd_gt rfl ?_ | (refine sk ?_; intro k_ hk_; simp only [go_sem, simprocAttr]; (with_reducible first | refine hk_ _ _ ?_ | refine hk_ _ ?_ | refine hk_ _ _ (by (first | exact HExtR.refl _ | (refine HExtR.push ?_; first | rfl | simp only [go_sem]))) ?_); clear hk_ k_) | ((first | refine sg ?_ | refine sc ?_); intro x_ y_ hx_ hy_; simp only [go_sem, simprocAttr]; ((first | (with_reducible first | refine hx_ ?_ | refine hy_ ?_) | (with_reducible first | refine bI_split (fun h_ => hx_ ?_) (fun h_ => hy_ ?_) | refine bI_split (fun h_ => hy_ ?_) (fun h_ => hx_ ?_)) <;> try rw [h_]) <;> clear hx_ hy_ x_ y_)) | (with_reducible first | refine callv_pure (gsize_c _ _) ?_ | refine callv_pure (right_c l hl' _) ?_ | refine vcalld_pure (gsize_c _ _) ?_ | refine vcalld_pure (right_c l hl' _) ?_) | ((with_reducible first | refine hK_ _ _ ?_ | refine hK_ _ _ _ _ (Weak.refl _ _) ?_); clear hK_ K_) | clear hK_ K_)
    all_goals refine wc_of_vc (by kernel_rfl) ?_
    all_goals repeat' (first | refine st ?_ | refine pblock_en rfl ?_ | (refine ss ?_; intro K_ hK_) | refine vc_draw' (by kernel_rfl) fun K_ hK_ => ?_ | refine vops_gf rfl ?_ | refine vops_gt rfl ?_ | refine vd_gf rfl ?_ | refine vd_gt rfl ?_ | (refine sk ?_; intro k_ hk_; simp only [go_sem, simprocAttr]; (with_reducible first | refine hk_ _ _ ?_ | refine hk_ _ ?_ | refine hk_ _ _ (by (first | exact HExtR.refl _ | (refine HExtR.push ?_; first | rfl | simp only [go_sem]))) ?_); clear hk_ k_) | ((first | refine sg ?_ | refine sc ?_); intro x_ y_ hx_ hy_; simp only [go_sem, simprocAttr]; ((first | (with_reducible first | refine hx_ ?_ | refine hy_ ?_) | (with_reducible first | refine bI_split (fun h_ => hx_ ?_) (fun h_ => hy_ ?_) | refine bI_split (fun h_ => hy_ ?_) (fun h_ => hx_ ?_)) <;> try rw [h_]) <;> clear hx_ hy_ x_ y_)) | ((with_reducible first | refine hK_ _ _ ?_ | refine hK_ _ _ _ _ (Weak.refl _ _) ?_); clear hK_ K_) | clear hK_ K_)
    all_goals first
      | exact ⟨hxt, frz_self rfl rfl⟩
      | (exfalso; simp_all; done)
  obtain ⟨hs, hr⟩ := Bool.and_eq_true_iff.1 hok
  have e : highestS l lo hi n = (gapsF 65536 l).foldl (highStep lo hi n) (0, false) := by unfold highestS; rw [if_pos hok]
  rw [e]
  repeat' (first | refine st ?_ | refine pblock_en rfl ?_ | (refine ss ?_; intro K_ hK_) | refine vc_draw' (by kernel_rfl) fun K_ hK_ => ?_ | refine vops_gf rfl ?_ | refine vops_gt rfl ?_ | refine vd_gf rfl ?_ | refine vd_gt rfl ?_ | (refine sk ?_; intro k_ hk_; simp only [go_sem, simprocAttr, hs, hr]; (with_reducible first | refine hk_ _ _ ?_ | refine hk_ _ ?_ | refine hk_ _ _ (by (first | exact HExtR.refl _ | (refine HExtR.push ?_; first | rfl | simp only [go_sem, hs, hr]))) ?_); clear hk_ k_) | ((first | refine sg ?_ | refine sc ?_); intro x_ y_ hx_ hy_; simp only [go_sem, simprocAttr, hs, hr]; ((first | (with_reducible first | refine hx_ ?_ | refine hy_ ?_) | (with_reducible first | refine bI_split (fun h_ => hx_ ?_) (fun h_ => hy_ ?_) | refine bI_split (fun h_ => hy_ ?_) (fun h_ => hx_ ?_)) <;> try rw [h_]) <;> clear hx_ hy_ x_ y_)) | (with_reducible first | refine callv_pure (gsize_c _ _) ?_ | refine callv_pure (right_c l hl' _) ?_ | refine vcalld_pure (gsize_c _ _) ?_ | refine vcalld_pure (right_c l hl' _) ?_) | ((with_reducible first | refine hK_ _ _ ?_ | refine hK_ _ _ _ _ (Weak.refl _ _) ?_); clear hK_ K_) | clear hK_ K_)
  refine wc_of_vc (by kernel_rfl) ?_
  repeat' (first | refine st ?_ | refine pblock_en rfl ?_ | (refine ss ?_; intro K_ hK_) | refine vc_draw' (by kernel_rfl) fun K_ hK_ => ?_ | refine vops_gf rfl ?_ | refine vops_gt rfl ?_ | refine vd_gf rfl ?_ | refine vd_gt rfl ?_ | (refine sk ?_; intro k_ hk_; simp only [go_sem, simprocAttr, hs, hr]; (with_reducible first | refine hk_ _ _ ?_ | refine hk_ _ ?_ | refine hk_ _ _ (by (first | exact HExtR.refl _ | (refine HExtR.push ?_; first | rfl | simp only [go_sem, hs, hr]))) ?_); clear hk_ k_) | ((first | refine sg ?_ | refine sc ?_); intro x_ y_ hx_ hy_; simp only [go_sem, simprocAttr, hs, hr]; ((first | (with_reducible first | refine hx_ ?_ | refine hy_ ?_) | (with_reducible first | refine bI_split (fun h_ => hx_ ?_) (fun h_ => hy_ ?_) | refine bI_split (fun h_ => hy_ ?_) (fun h_ => hx_ ?_)) <;> try rw [h_]) <;> clear hx_ hy_ x_ y_)) | ((with_reducible first | refine hK_ _ _ ?_ | refine hK_ _ _ _ _ (Weak.refl _ _) ?_); clear hK_ K_) | clear hK_ K_)
  refine wc_seq (wc_of_vc (by kernel_rfl) ?_)
  repeat' (first | refine st ?_ | refine pblock_en rfl ?_ | (refine ss ?_; intro K_ hK_) | refine vc_draw' (by kernel_rfl) fun K_ hK_ => ?_ | refine vops_gf rfl ?_ | refine vops_gt rfl ?_ | refine vd_gf rfl ?_ | refine vd_gt rfl ?_ | (refine sk ?_; intro k_ hk_; simp only [go_sem, simprocAttr]; (with_reducible first | refine hk_ _ _ ?_ | refine hk_ _ ?_ | refine hk_ _ _ (by (first | exact HExtR.refl _ | (refine HExtR.push ?_; first | rfl | simp only [go_sem]))) ?_); clear hk_ k_) | ((first | refine sg ?_ | refine sc ?_); intro x_ y_ hx_ hy_; simp only [go_sem, simprocAttr]; ((first | (with_reducible first | refine hx_ ?_ | refine hy_ ?_) | (with_reducible first | refine bI_split (fun h_ => hx_ ?_) (fun h_ => hy_ ?_) | refine bI_split (fun h_ => hy_ ?_) (fun h_ => hx_ ?_)) <;> try rw [h_]) <;> clear hx_ hy_ x_ y_)) | ((with_reducible first | refine hK_ _ _ ?_ | refine hK_ _ _ _ _ (Weak.refl _ _) ?_); clear hK_ K_) | clear hK_ K_)
  refine wc_seq (wc_seq (wc_of_vc (by kernel_rfl) ?_))
  repeat' (first | refine st ?_ | refine pblock_en rfl ?_ | (refine ss ?_; intro K_ hK_) | refine vc_draw' (by kernel_rfl) fun K_ hK_ => ?_ | refine vops_gf rfl ?_ | refine vops_gt rfl ?_ | refine vd_gf rfl ?_ | refine vd_gt rfl ?_ | (refine sk ?_; intro k_ hk_; simp only [go_sem, simprocAttr]; (with_reducible first | refine hk_ _ _ ?_ | refine hk_ _ ?_ | refine hk_ _ _ (by (first | exact HExtR.refl _ | (refine HExtR.push ?_; first | rfl | simp only [go_sem]))) ?_); clear hk_ k_) | ((first | refine sg ?_ | refine sc ?_); intro x_ y_ hx_ hy_; simp only [go_sem, simprocAttr]; ((first | (with_reducible first | refine hx_ ?_ | refine hy_ ?_) | (with_reducible first | refine bI_split (fun h_ => hx_ ?_) (fun h_ => hy_ ?_) | refine bI_split (fun h_ => hy_ ?_) (fun h_ => hx_ ?_)) <;> try rw [h_]) <;> clear hx_ hy_ x_ y_)) | ((with_reducible first | refine hK_ _ _ ?_ | refine hK_ _ _ _ _ (Weak.refl _ _) ?_); clear hK_ K_) | clear hK_ K_)
  refine callv (each0_c l _) ?_
  rintro r H1 ⟨rfl, hx, hn1, hb⟩
  repeat' (first | refine st ?_ | refine pblock_en rfl ?_ | (refine ss ?_; intro K_ hK_) | refine vc_draw' (by kernel_rfl) fun K_ hK_ => ?_ | refine vops_gf rfl ?_ | refine vops_gt rfl ?_ | refine vd_gf rfl ?_ | refine vd_gt rfl ?_ | (refine sk ?_; intro k_ hk_; simp only [go_sem, simprocAttr]; (with_reducible first | refine hk_ _ _ ?_ | refine hk_ _ ?_ | refine hk_ _ _ (by (first | exact HExtR.refl _ | (refine HExtR.push ?_; first | rfl | simp only [go_sem]))) ?_); clear hk_ k_) | ((first | refine sg ?_ | refine sc ?_); intro x_ y_ hx_ hy_; simp only [go_sem, simprocAttr]; ((first | (with_reducible first | refine hx_ ?_ | refine hy_ ?_) | (with_reducible first | refine bI_split (fun h_ => hx_ ?_) (fun h_ => hy_ ?_) | refine bI_split (fun h_ => hy_ ?_) (fun h_ => hx_ ?_)) <;> try rw [h_]) <;> clear hx_ hy_ x_ y_)) | ((with_reducible first | refine hK_ _ _ ?_ | refine hK_ _ _ _ _ (Weak.refl _ _) ?_); clear hK_ K_) | clear hK_ K_)
  obtain ⟨J, hJ⟩ : ∃ J : Nat → (Nat → Prop) → Heap → Prop, J = fun i T H2 => T = (fun k => k < H.n + 5) ∧ H.n + 5 < H2.n ∧ (∀ k, k < H.n → H2.m k = H.m k) ∧ H2.m H.n = some { cells := [I lo] } ∧ H2.m (H.n + 1) = some { cells := [I hi] } ∧ H2.m (H.n + 2) = some { cells := [I n] } ∧
      ∃ r : Int × Bool, ((gapsF 65536 l).take i).foldl (highStep lo hi n) (0, false) = r ∧ H2.m (H.n + 3) = some { cells := [I r.1] } ∧ H2.m (H.n + 4) = some { cells := [Bo r.2] } := ⟨_, rfl⟩
  have hm : ∀ k, k < H.n + 5 → H1.m k = _ := fun k hk => hx.2 k (by simpa using hk)
  refine wc_block (wc_rangeFunc hX (f := 88) (caps := [(_, 0)]) (xs := (gapsF 65536 l).map fun g => .agg g.c) (by kernel_rfl) (by simp only [go_sem, simprocAttr, ]) Try.call88 (each_c l hl hn1 hb) J (fun _ => False) (fun k => k < H.n + 5) ⟨?_, ?_⟩ ?_ ?_ (by kernel_rfl) (by kernel_rfl) ?_ ?_ (fun _ h => h.elim))
  · subst hJ
    rintro i T H2 ⟨rfl, h, _⟩ k hk
    omega
  · subst hJ
    rintro i T H2 H3 ⟨rfl, h1, h2, h3, h4, h5, r, h6, h7, h8⟩ hn hk
    exact ⟨rfl, by omega, fun k hk' => (hk k (by omega)).trans (h2 k hk'), (hk _ (by omega)).trans h3, (hk _ (by omega)).trans h4, (hk _ (by omega)).trans h5, r, h6, (hk _ (by omega)).trans h7, (hk _ (by omega)).trans h8⟩
  · subst hJ
    refine ⟨rfl, by simpa using hn1, fun k hk => ?_, ?_, ?_, ?_, (0, false), rfl, ?_, ?_⟩
    · rw [hm _ (by omega)]
      exact (by (try simp only [go_sem, simprocAttr, nlt hk, nlt0 hk]); first | done | exact rfl)
    all_goals
      rw [hm _ (by omega)]
      exact (by (try simp only [go_sem, simprocAttr, ]); first | done | exact rfl)
  · intro q hq
    simp at hq; subst hq
    simp
  · subst hJ
    rintro i c T H2 hi' ⟨rfl, h1, h2, h3, h4, h5, r, h6, h7, h8⟩
    obtain ⟨g, hg, rfl⟩ := gaps_at hi'
    have ht : ((gapsF 65536 l).take (i + 1)).foldl (highStep lo hi n) (0, false) = highStep lo hi n r g := by rw [fold_take hg, h6]
    have q0 : (H.n = H2.n) = False := eq_false (by omega)
    have q1 : (H.n + 1 = H2.n) = False := eq_false (by omega)
    have q2 : (H.n + 2 = H2.n) = False := eq_false (by omega)
    have q3 : (H.n + 3 = H2.n) = False := eq_false (by omega)
    have q4 : (H.n + 4 = H2.n) = False := eq_false (by omega)
    have hj : ∀ (H3 : Heap) (r' : Int × Bool), H2.n ≤ H3.n → (∀ k, k < H.n + 3 → H3.m k = H2.m k) → highStep lo hi n r g = r' → H3.m (H.n + 3) = some { cells := [I r'.1] } → H3.m (H.n + 4) = some { cells := [Bo r'.2] } → (∀ k, H.n + 5 ≤ k → k < H2.n → H3.m k = H2.m k) →
        Round (fun i T H2 => T = (fun k => k < H.n + 5) ∧ H.n + 5 < H2.n ∧ (∀ k, k < H.n → H2.m k = H.m k) ∧ H2.m H.n = some { cells := [I lo] } ∧ H2.m (H.n + 1) = some { cells := [I hi] } ∧ H2.m (H.n + 2) = some { cells := [I n] } ∧
          ∃ r : Int × Bool, ((gapsF 65536 l).take i).foldl (highStep lo hi n) (0, false) = r ∧ H2.m (H.n + 3) = some { cells := [I r.1] } ∧ H2.m (H.n + 4) = some { cells := [Bo r.2] }) i (fun k => k < H.n + 5) H2 H3 := by
      intro H3 r' k1 k2 k3 k4 k5 k6
      refine ⟨k1, fun k hk hnt => k6 k (by omega) hk, _, ⟨rfl, by omega, fun k hk => (k2 k (by omega)).trans (h2 k hk), (k2 _ (by omega)).trans h3, (k2 _ (by omega)).trans h4, (k2 _ (by omega)).trans h5, r', by rw [ht, k3], k4, k5⟩, fun k hk => .inl hk⟩
    by_cases hge : wr ((ginS g lo hi).e - (ginS g lo hi).s) ≥ n
    · have e2 : highStep lo hi n r g = (wr ((ginS g lo hi).e - n), true) := by unfold highStep; rw [if_pos hge]
      repeat' (first | refine st ?_ | refine pblock_en rfl ?_ | (refine ss ?_; intro K_ hK_) | refine vc_draw' (by kernel_rfl) fun K_ hK_ => ?_ | refine vops_gf rfl ?_ | refine vops_gt rfl ?_ | refine vd_gf rfl ?_ | refine vd_gt rfl ?_ | (refine sk ?_; intro k_ hk_; simp only [go_sem, simprocAttr, q0, q1, q2, q3, q4, h3, h4, h5, h7, h8, eq_true hge]; (with_reducible first | refine hk_ _ _ ?_ | refine hk_ _ ?_ | refine hk_ _ _ (by (first | exact HExtR.refl _ | (refine HExtR.push ?_; first | rfl | simp only [go_sem, q0, q1, q2, q3, q4, h3, h4, h5, h7, h8, eq_true hge]))) ?_); clear hk_ k_) | ((first | refine sg ?_ | refine sc ?_); intro x_ y_ hx_ hy_; simp only [go_sem, simprocAttr, q0, q1, q2, q3, q4, h3, h4, h5, h7, h8, eq_true hge]; ((first | (with_reducible first | refine hx_ ?_ | refine hy_ ?_) | (with_reducible first | refine bI_split (fun h_ => hx_ ?_) (fun h_ => hy_ ?_) | refine bI_split (fun h_ => hy_ ?_) (fun h_ => hx_ ?_)) <;> try rw [h_]) <;> clear hx_ hy_ x_ y_)) | (with_reducible first | refine callv_pure (in_c _ _ _ _) ?_ | refine vcalld_pure (in_c _ _ _ _) ?_) | ((with_reducible first | refine hK_ _ _ ?_ | refine hK_ _ _ _ _ (Weak.refl _ _) ?_); clear hK_ K_) | clear hK_ K_)
      refine hj _ _ ?_ (fun k hk => ?_) e2 ?_ ?_ (fun k hk hk' => ?_)
      · simp
      · have q5 : (k = H2.n) = False := eq_false (by omega)
        have q6 : (k = H.n + 3) = False := eq_false (by omega)
        have q7 : (k = H.n + 4) = False := eq_false (by omega)
        exact (by (try simp only [go_sem, simprocAttr, q5, q6, q7]); first | done | exact rfl)
      · exact (by (try simp only [go_sem, simprocAttr, q3, q4]); first | done | exact rfl)
      · exact (by (try simp only [go_sem, simprocAttr, q3, q4]); first | done | exact rfl)
      · have q5 : (k = H2.n) = False := eq_false (by omega)
        have q6 : (k = H.n + 3) = False := eq_false (by omega)
        have q7 : (k = H.n + 4) = False := eq_false (by omega)
        exact (by (try simp only [go_sem, simprocAttr, q5, q6, q7]); first | done | exact rfl)
    · have e2 : highStep lo hi n r g = r := by unfold highStep; rw [if_neg hge]
      repeat' (first | refine st ?_ | refine pblock_en rfl ?_ | (refine ss ?_; intro K_ hK_) | refine vc_draw' (by kernel_rfl) fun K_ hK_ => ?_ | refine vops_gf rfl ?_ | refine vops_gt rfl ?_ | refine vd_gf rfl ?_ | refine vd_gt rfl ?_ | (refine sk ?_; intro k_ hk_; simp only [go_sem, simprocAttr, q0, q1, q2, q3, q4, h3, h4, h5, h7, h8, eq_false hge]; (with_reducible first | refine hk_ _ _ ?_ | refine hk_ _ ?_ | refine hk_ _ _ (by (first | exact HExtR.refl _ | (refine HExtR.push ?_; first | rfl | simp only [go_sem, q0, q1, q2, q3, q4, h3, h4, h5, h7, h8, eq_false hge]))) ?_); clear hk_ k_) | ((first | refine sg ?_ | refine sc ?_); intro x_ y_ hx_ hy_; simp only [go_sem, simprocAttr, q0, q1, q2, q3, q4, h3, h4, h5, h7, h8, eq_false hge]; ((first | (with_reducible first | refine hx_ ?_ | refine hy_ ?_) | (with_reducible first | refine bI_split (fun h_ => hx_ ?_) (fun h_ => hy_ ?_) | refine bI_split (fun h_ => hy_ ?_) (fun h_ => hx_ ?_)) <;> try rw [h_]) <;> clear hx_ hy_ x_ y_)) | (with_reducible first | refine callv_pure (in_c _ _ _ _) ?_ | refine vcalld_pure (in_c _ _ _ _) ?_) | ((with_reducible first | refine hK_ _ _ ?_ | refine hK_ _ _ _ _ (Weak.refl _ _) ?_); clear hK_ K_) | clear hK_ K_)
      refine hj _ _ ?_ (fun k hk => ?_) e2 ?_ ?_ (fun k hk hk' => ?_)
      · simp
      · have q5 : (k = H2.n) = False := eq_false (by omega)
        exact (by (try simp only [go_sem, simprocAttr, q5]); first | done | exact rfl)
      · exact (by (try simp only [go_sem, simprocAttr, q3, h7]); first | done | exact rfl)
      · exact (by (try simp only [go_sem, simprocAttr, q4, h8]); first | done | exact rfl)
      · have q5 : (k = H2.n) = False := eq_false (by omega)
        exact (by (try simp only [go_sem, simprocAttr, q5]); first | done | exact rfl)
  · subst hJ
    rintro T H2 ⟨rfl, h1, h2, h3, h4, h5, r, h6, h7, h8⟩
    rw [List.take_of_length_le (by simp)] at h6
    rw [h6]
    refine wc_seq (wc_of_vc (by kernel_rfl) ?_)
    repeat' (first | refine st ?_ | refine pblock_en rfl ?_ | (refine ss ?_; intro K_ hK_) | refine vc_draw' (by kernel_rfl) fun K_ hK_ => ?_ | refine vops_gf rfl ?_ | refine vops_gt rfl ?_ | refine vd_gf rfl ?_ | refine vd_gt rfl ?_ | (refine sk ?_; intro k_ hk_; simp only [go_sem, simprocAttr, h7, h8]; (with_reducible first | refine hk_ _ _ ?_ | refine hk_ _ ?_ | refine hk_ _ _ (by (first | exact HExtR.refl _ | (refine HExtR.push ?_; first | rfl | simp only [go_sem, h7, h8]))) ?_); clear hk_ k_) | ((first | refine sg ?_ | refine sc ?_); intro x_ y_ hx_ hy_; simp only [go_sem, simprocAttr, h7, h8]; ((first | (with_reducible first | refine hx_ ?_ | refine hy_ ?_) | (with_reducible first | refine bI_split (fun h_ => hx_ ?_) (fun h_ => hy_ ?_) | refine bI_split (fun h_ => hy_ ?_) (fun h_ => hx_ ?_)) <;> try rw [h_]) <;> clear hx_ hy_ x_ y_)) | ((with_reducible first | refine hK_ _ _ ?_ | refine hK_ _ _ _ _ (Weak.refl _ _) ?_); clear hK_ K_) | clear hK_ K_)
    refine wc_of_vc (by kernel_rfl) ?_
    repeat' (first | refine st ?_ | refine pblock_en rfl ?_ | (refine ss ?_; intro K_ hK_) | refine vc_draw' (by kernel_rfl) fun K_ hK_ => ?_ | refine vops_gf rfl ?_ | refine vops_gt rfl ?_ | refine vd_gf rfl ?_ | refine vd_gt rfl ?_ | (refine sk ?_; intro k_ hk_; simp only [go_sem, simprocAttr]; (with_reducible first | refine hk_ _ _ ?_ | refine hk_ _ ?_ | refine hk_ _ _ (by (first | exact HExtR.refl _ | (refine HExtR.push ?_; first | rfl | simp only [go_sem]))) ?_); clear hk_ k_) | ((first | refine sg ?_ | refine sc ?_); intro x_ y_ hx_ hy_; simp only [go_sem, simprocAttr]; ((first | (with_reducible first | refine hx_ ?_ | refine hy_ ?_) | (with_reducible first | refine bI_split (fun h_ => hx_ ?_) (fun h_ => hy_ ?_) | refine bI_split (fun h_ => hy_ ?_) (fun h_ => hx_ ?_)) <;> try rw [h_]) <;> clear hx_ hy_ x_ y_)) | ((with_reducible first | refine hK_ _ _ ?_ | refine hK_ _ _ _ _ (Weak.refl _ _) ?_); clear hK_ K_) | clear hK_ K_)
    exact ⟨⟨by omega, h2⟩, frz_self rfl rfl⟩

theorem lowest_c (l : List Ar) (hl : l.length < 100000) (lo hi n : Int) (H : Heap) : ACalls Try.prog 50 [.s (LV Ar.c l), .s (I lo), .s (I hi), .s (I n)] H (.tup [.s (I (lowestS l lo hi n).1), .s (Bo (lowestS l lo hi n).2)]) H := by
  have hl' : l.length < 1000000 := by omega
  refine acalls_gc ?_
  refine acalls_of_wc te_ok mix Try.func50 rfl Try.call50 (by kernel_rfl) rfl ?_
  intro X hX
  simp only [Try.results50]
  refine wc_seq (wc_of_vc (by kernel_rfl) ?_)
  repeat' (first | refine st ?_ | refine pblock_en rfl ?_ | (refine ss ?_; intro K_ hK_) | refine vops_gf rfl ?_ | refine vops_gt rfl ?_ | (refine sk ?_; intro k_ hk_; simp only [go_sem, simprocAttr]; (with_reducible first | refine hk_ _ _ ?_ | refine hk_ _ ?_); clear hk_ k_) | ((first | refine sg ?_ | refine sc ?_); intro x_ y_ hx_ hy_; simp only [go_sem, simprocAttr]; ((first | (with_reducible first | refine hx_ ?_ | refine hy_ ?_) | (with_reducible first | refine bI_split (fun h_ => hx_ ?_) (fun h_ => hy_ ?_) | refine bI_split (fun h_ => hy_ ?_) (fun h_ => hx_ ?_)) <;> try rw [h_]) <;> clear hx_ hy_ x_ y_)) | ((with_reducible first | refine hK_ _ _ ?_ | refine hK_ _ _ _ _ (Weak.refl _ _) ?_); clear hK_ K_) | clear hK_ K_)
  refine wc_seq (wc_seq (wc_of_vc (by kernel_rfl) ?_))
  by_cases hok : (gsizeS n && right l) = true
  case neg =>
    have e : lowestS l lo hi n = (0, false) := by unfold lowestS; rw [if_neg hok]
    rw [e]
    repeat' (first | refine st ?_ | refine pblock_en rfl ?_ | (refine ss ?_; intro K_ hK_) | refine vops_gf rfl ?_ | refine vops_gt rfl ?_ | (refine sk ?_; intro k_ hk_; simp only [go_sem, simprocAttr]; (with_reducible first | refine hk_ _ _ ?_ | refine hk_ _ ?_); clear hk_ k_) | ((first | refine sg ?_ | refine sc ?_); intro x_ y_ hx_ hy_; simp only [go_sem, simprocAttr]; ((first | (with_reducible first | refine hx_ ?_ | refine hy_ ?_) | (with_reducible first | refine bI_split (fun h_ => hx_ ?_) (fun h_ => hy_ ?_) | refine bI_split (fun h_ => hy_ ?_) (fun h_ => hx_ ?_)) <;> try rw [h_]) <;> clear hx_ hy_ x_ y_)) | (with_reducible first | refine callv_pure (gsize_c _ _) ?_ | refine callv_pure (right_c l hl' _) ?_) | ((with_reducible first | refine hK_ _ _ ?_ | refine hK_ _ _ _ _ (Weak.refl _ _) ?_); clear hK_ K_) | clear hK_ K_)
    all_goals refine wc_of_vc (by kernel_rfl) ?_
    all_goals repeat' (first | refine st ?_ | refine pblock_en rfl ?_ | (refine ss ?_; intro K_ hK_) | refine vops_gf rfl ?_ | refine vops_gt rfl ?_ | (refine sk ?_; intro k_ hk_; simp only [go_sem, simprocAttr]; (with_reducible first | refine hk_ _ _ ?_ | refine hk_ _ ?_); clear hk_ k_) | ((first | refine sg ?_ | refine sc ?_); intro x_ y_ hx_ hy_; simp only [go_sem, simprocAttr]; ((first | (with_reducible first | refine hx_ ?_ | refine hy_ ?_) | (with_reducible first | refine bI_split (fun h_ => hx_ ?_) (fun h_ => hy_ ?_) | refine bI_split (fun h_ => hy_ ?_) (fun h_ => hx_ ?_)) <;> try rw [h_]) <;> clear hx_ hy_ x_ y_)) | ((with_reducible first | refine hK_ _ _ ?_ | refine hK_ _ _ _ _ (Weak.refl _ _) ?_); clear hK_ K_) | clear hK_ K_)
    all_goals first
      | exact ⟨hxt, frz_self rfl rfl⟩
      | (exfalso; simp_all; done)
  obtain ⟨hs, hr⟩ := Bool.and_eq_true_iff.1 hok
  have e : lowestS l lo hi n = lowS lo hi n (gapsF 65536 l) := by unfold lowestS; rw [if_pos hok]
  rw [e]
  repeat' (first | refine st ?_ | refine pblock_en rfl ?_ | (refine ss ?_; intro K_ hK_) | refine vops_gf rfl ?_ | refine vops_gt rfl ?_ | (refine sk ?_; intro k_ hk_; simp only [go_sem, simprocAttr, hs, hr]; (with_reducible first | refine hk_ _ _ ?_ | refine hk_ _ ?_); clear hk_ k_) | ((first | refine sg ?_ | refine sc ?_); intro x_ y_ hx_ hy_; simp only [go_sem, simprocAttr, hs, hr]; ((first | (with_reducible first | refine hx_ ?_ | refine hy_ ?_) | (with_reducible first | refine bI_split (fun h_ => hx_ ?_) (fun h_ => hy_ ?_) | refine bI_split (fun h_ => hy_ ?_) (fun h_ => hx_ ?_)) <;> try rw [h_]) <;> clear hx_ hy_ x_ y_)) | (with_reducible first | refine callv_pure (gsize_c _ _) ?_ | refine callv_pure (right_c l hl' _) ?_) | ((with_reducible first | refine hK_ _ _ ?_ | refine hK_ _ _ _ _ (Weak.refl _ _) ?_); clear hK_ K_) | clear hK_ K_)
  refine wc_of_vc (by kernel_rfl) ?_
  repeat' (first | refine st ?_ | refine pblock_en rfl ?_ | (refine ss ?_; intro K_ hK_) | refine vops_gf rfl ?_ | refine vops_gt rfl ?_ | (refine sk ?_; intro k_ hk_; simp only [go_sem, simprocAttr, hs, hr]; (with_reducible first | refine hk_ _ _ ?_ | refine hk_ _ ?_); clear hk_ k_) | ((first | refine sg ?_ | refine sc ?_); intro x_ y_ hx_ hy_; simp only [go_sem, simprocAttr, hs, hr]; ((first | (with_reducible first | refine hx_ ?_ | refine hy_ ?_) | (with_reducible first | refine bI_split (fun h_ => hx_ ?_) (fun h_ => hy_ ?_) | refine bI_split (fun h_ => hy_ ?_) (fun h_ => hx_ ?_)) <;> try rw [h_]) <;> clear hx_ hy_ x_ y_)) | ((with_reducible first | refine hK_ _ _ ?_ | refine hK_ _ _ _ _ (Weak.refl _ _) ?_); clear hK_ K_) | clear hK_ K_)
  refine wc_seq (wc_seq (wc_of_vc (by kernel_rfl) ?_))
  repeat' (first | refine st ?_ | refine pblock_en rfl ?_ | (refine ss ?_; intro K_ hK_) | refine vops_gf rfl ?_ | refine vops_gt rfl ?_ | (refine sk ?_; intro k_ hk_; simp only [go_sem, simprocAttr]; (with_reducible first | refine hk_ _ _ ?_ | refine hk_ _ ?_); clear hk_ k_) | ((first | refine sg ?_ | refine sc ?_); intro x_ y_ hx_ hy_; simp only [go_sem, simprocAttr]; ((first | (with_reducible first | refine hx_ ?_ | refine hy_ ?_) | (with_reducible first | refine bI_split (fun h_ => hx_ ?_) (fun h_ => hy_ ?_) | refine bI_split (fun h_ => hy_ ?_) (fun h_ => hx_ ?_)) <;> try rw [h_]) <;> clear hx_ hy_ x_ y_)) | ((with_reducible first | refine hK_ _ _ ?_ | refine hK_ _ _ _ _ (Weak.refl _ _) ?_); clear hK_ K_) | clear hK_ K_)
  refine callv (each0_c l _) ?_
  rintro r H1 ⟨rfl, hx, hn1, hb⟩
  repeat' (first | refine st ?_ | refine pblock_en rfl ?_ | (refine ss ?_; intro K_ hK_) | refine vops_gf rfl ?_ | refine vops_gt rfl ?_ | (refine sk ?_; intro k_ hk_; simp only [go_sem, simprocAttr]; (with_reducible first | refine hk_ _ _ ?_ | refine hk_ _ ?_); clear hk_ k_) | ((first | refine sg ?_ | refine sc ?_); intro x_ y_ hx_ hy_; simp only [go_sem, simprocAttr]; ((first | (with_reducible first | refine hx_ ?_ | refine hy_ ?_) | (with_reducible first | refine bI_split (fun h_ => hx_ ?_) (fun h_ => hy_ ?_) | refine bI_split (fun h_ => hy_ ?_) (fun h_ => hx_ ?_)) <;> try rw [h_]) <;> clear hx_ hy_ x_ y_)) | ((with_reducible first | refine hK_ _ _ ?_ | refine hK_ _ _ _ _ (Weak.refl _ _) ?_); clear hK_ K_) | clear hK_ K_)
  obtain ⟨J, hJ⟩ : ∃ J : Nat → (Nat → Prop) → Heap → Prop, J = fun i T H2 => T = (fun k => k < H.n + 5) ∧ H.n + 5 < H2.n ∧ (∀ k, k < H.n → H2.m k = H.m k) ∧ H2.m H.n = some { cells := [I lo] } ∧ H2.m (H.n + 1) = some { cells := [I hi] } ∧ H2.m (H.n + 2) = some { cells := [I n] } ∧
      lowS lo hi n (gapsF 65536 l) = lowS lo hi n ((gapsF 65536 l).drop i) ∧ H2.m (H.n + 3) = some { cells := [I 0] } ∧ H2.m (H.n + 4) = some { cells := [Bo false] } := ⟨_, rfl⟩
  have hm : ∀ k, k < H.n + 5 → H1.m k = _ := fun k hk => hx.2 k (by simpa using hk)
  refine wc_block (wc_rangeFunc hX (f := 88) (caps := [(_, 0)]) (xs := (gapsF 65536 l).map fun g => .agg g.c) (by kernel_rfl) (by simp only [go_sem, simprocAttr, ]) Try.call88 (each_c l hl hn1 hb) J
    (fun H2 => H.n ≤ H2.n ∧ (∀ k, k < H.n → H2.m k = H.m k) ∧ H2.m (H.n + 3) = some { cells := [I (lowS lo hi n (gapsF 65536 l)).1] } ∧ H2.m (H.n + 4) = some { cells := [Bo (lowS lo hi n (gapsF 65536 l)).2] }) (fun k => k < H.n + 5) ⟨?_, ?_⟩ ?_ ?_ (by kernel_rfl) (by kernel_rfl) ?_ ?_ ?_)
  · subst hJ
    rintro i T H2 ⟨rfl, h, _⟩ k hk
    omega
  · subst hJ
    rintro i T H2 H3 ⟨rfl, h1, h2, h3, h4, h5, h6, h7, h8⟩ hn hk
    exact ⟨rfl, by omega, fun k hk' => (hk k (by omega)).trans (h2 k hk'), (hk _ (by omega)).trans h3, (hk _ (by omega)).trans h4, (hk _ (by omega)).trans h5, h6, (hk _ (by omega)).trans h7, (hk _ (by omega)).trans h8⟩
  · subst hJ
    refine ⟨rfl, by simpa using hn1, fun k hk => ?_, ?_, ?_, ?_, rfl, ?_, ?_⟩
    · rw [hm _ (by omega)]
      exact (by (try simp only [go_sem, simprocAttr, nlt hk, nlt0 hk]); first | done | exact rfl)
    all_goals
      rw [hm _ (by omega)]
      exact (by (try simp only [go_sem, simprocAttr, ]); first | done | exact rfl)
  · intro q hq
    simp at hq; subst hq
    simp
  · subst hJ
    rintro i c T H2 hi' ⟨rfl, h1, h2, h3, h4, h5, h6, h7, h8⟩
    obtain ⟨g, hg, rfl⟩ := gaps_at hi'
    have hd := drop_at hg
    rw [hd, lowS] at h6
    have q0 : (H.n = H2.n) = False := eq_false (by omega)
    have q1 : (H.n + 1 = H2.n) = False := eq_false (by omega)
    have q2 : (H.n + 2 = H2.n) = False := eq_false (by omega)
    have q3 : (H.n + 3 = H2.n) = False := eq_false (by omega)
    have q4 : (H.n + 4 = H2.n) = False := eq_false (by omega)
    by_cases hge : wr ((ginS g lo hi).e - (ginS g lo hi).s) ≥ n
    · rw [if_pos hge] at h6
      repeat' (first | refine st ?_ | refine pblock_en rfl ?_ | (refine ss ?_; intro K_ hK_) | refine vops_gf rfl ?_ | refine vops_gt rfl ?_ | (refine sk ?_; intro k_ hk_; simp only [go_sem, simprocAttr, q0, q1, q2, q3, q4, h3, h4, h5, h7, h8, eq_true hge]; (with_reducible first | refine hk_ _ _ ?_ | refine hk_ _ ?_); clear hk_ k_) | ((first | refine sg ?_ | refine sc ?_); intro x_ y_ hx_ hy_; simp only [go_sem, simprocAttr, q0, q1, q2, q3, q4, h3, h4, h5, h7, h8, eq_true hge]; ((first | (with_reducible first | refine hx_ ?_ | refine hy_ ?_) | (with_reducible first | refine bI_split (fun h_ => hx_ ?_) (fun h_ => hy_ ?_) | refine bI_split (fun h_ => hy_ ?_) (fun h_ => hx_ ?_)) <;> try rw [h_]) <;> clear hx_ hy_ x_ y_)) | (with_reducible first | refine callv_pure (in_c _ _ _ _) ?_) | ((with_reducible first | refine hK_ _ _ ?_ | refine hK_ _ _ _ _ (Weak.refl _ _) ?_); clear hK_ K_) | clear hK_ K_)
      rw [h6]
      refine ⟨?_, fun k hk => ?_, ?_, ?_⟩
      · simp; omega
      · have q5 : (k = H2.n) = False := eq_false (by omega)
        exact ((by (try simp only [go_sem, simprocAttr, q5, nlt hk, nlt0 hk, h2 k hk]); first | done | exact rfl))
      · exact (by (try simp only [go_sem, simprocAttr, q3, q4]); first | done | exact rfl)
      · exact (by (try simp only [go_sem, simprocAttr, q3, q4]); first | done | exact rfl)
    · rw [if_neg hge] at h6
      repeat' (first | refine st ?_ | refine pblock_en rfl ?_ | (refine ss ?_; intro K_ hK_) | refine vops_gf rfl ?_ | refine vops_gt rfl ?_ | (refine sk ?_; intro k_ hk_; simp only [go_sem, simprocAttr, q0, q1, q2, q3, q4, h3, h4, h5, h7, h8, eq_false hge]; (with_reducible first | refine hk_ _ _ ?_ | refine hk_ _ ?_); clear hk_ k_) | ((first | refine sg ?_ | refine sc ?_); intro x_ y_ hx_ hy_; simp only [go_sem, simprocAttr, q0, q1, q2, q3, q4, h3, h4, h5, h7, h8, eq_false hge]; ((first | (with_reducible first | refine hx_ ?_ | refine hy_ ?_) | (with_reducible first | refine bI_split (fun h_ => hx_ ?_) (fun h_ => hy_ ?_) | refine bI_split (fun h_ => hy_ ?_) (fun h_ => hx_ ?_)) <;> try rw [h_]) <;> clear hx_ hy_ x_ y_)) | (with_reducible first | refine callv_pure (in_c _ _ _ _) ?_) | ((with_reducible first | refine hK_ _ _ ?_ | refine hK_ _ _ _ _ (Weak.refl _ _) ?_); clear hK_ K_) | clear hK_ K_)
      refine ⟨by simp, fun k hk hnt => ?_, _, ⟨rfl, by simp; omega, fun k hk => ?_, ?_, ?_, ?_, h6, ?_, ?_⟩, fun k hk => .inl hk⟩
      · have q5 : (k = H2.n) = False := eq_false (by omega)
        exact (by (try simp only [go_sem, simprocAttr, q5]); first | done | exact rfl)
      · have q5 : (k = H2.n) = False := eq_false (by omega)
        exact (by (try simp only [go_sem, simprocAttr, q5, h2 k hk]); first | done | exact rfl)
      · exact (by (try simp only [go_sem, simprocAttr, q0, h3]); first | done | exact rfl)
      · exact (by (try simp only [go_sem, simprocAttr, q1, h4]); first | done | exact rfl)
      · exact (by (try simp only [go_sem, simprocAttr, q2, h5]); first | done | exact rfl)
      · exact (by (try simp only [go_sem, simprocAttr, q3, h7]); first | done | exact rfl)
      · exact (by (try simp only [go_sem, simprocAttr, q4, h8]); first | done | exact rfl)
  · subst hJ
    rintro T H2 ⟨rfl, h1, h2, h3, h4, h5, h6, h7, h8⟩
    rw [List.drop_of_length_le (by simp), lowS] at h6
    rw [h6]
    refine wc_seq (wc_of_vc (by kernel_rfl) ?_)
    repeat' (first | refine st ?_ | refine pblock_en rfl ?_ | (refine ss ?_; intro K_ hK_) | refine vops_gf rfl ?_ | refine vops_gt rfl ?_ | (refine sk ?_; intro k_ hk_; simp only [go_sem, simprocAttr, h7, h8]; (with_reducible first | refine hk_ _ _ ?_ | refine hk_ _ ?_); clear hk_ k_) | ((first | refine sg ?_ | refine sc ?_); intro x_ y_ hx_ hy_; simp only [go_sem, simprocAttr, h7, h8]; ((first | (with_reducible first | refine hx_ ?_ | refine hy_ ?_) | (with_reducible first | refine bI_split (fun h_ => hx_ ?_) (fun h_ => hy_ ?_) | refine bI_split (fun h_ => hy_ ?_) (fun h_ => hx_ ?_)) <;> try rw [h_]) <;> clear hx_ hy_ x_ y_)) | ((with_reducible first | refine hK_ _ _ ?_ | refine hK_ _ _ _ _ (Weak.refl _ _) ?_); clear hK_ K_) | clear hK_ K_)
    refine wc_of_vc (by kernel_rfl) ?_
    repeat' (first | refine st ?_ | refine pblock_en rfl ?_ | (refine ss ?_; intro K_ hK_) | refine vops_gf rfl ?_ | refine vops_gt rfl ?_ | (refine sk ?_; intro k_ hk_; simp only [go_sem, simprocAttr]; (with_reducible first | refine hk_ _ _ ?_ | refine hk_ _ ?_); clear hk_ k_) | ((first | refine sg ?_ | refine sc ?_); intro x_ y_ hx_ hy_; simp only [go_sem, simprocAttr]; ((first | (with_reducible first | refine hx_ ?_ | refine hy_ ?_) | (with_reducible first | refine bI_split (fun h_ => hx_ ?_) (fun h_ => hy_ ?_) | refine bI_split (fun h_ => hy_ ?_) (fun h_ => hx_ ?_)) <;> try rw [h_]) <;> clear hx_ hy_ x_ y_)) | ((with_reducible first | refine hK_ _ _ ?_ | refine hK_ _ _ _ _ (Weak.refl _ _) ?_); clear hK_ K_) | clear hK_ K_)
    refine ⟨⟨by simp; omega, fun k hk => ?_⟩, frz_self rfl rfl⟩
    exact (by (try simp only [go_sem, simprocAttr, nlt hk, h2 k hk]); first | done | exact rfl)
  · rintro H2 ⟨h1, h2, h3, h4⟩
    repeat' (first | refine st ?_ | refine pblock_en rfl ?_ | (refine ss ?_; intro K_ hK_) | refine vops_gf rfl ?_ | refine vops_gt rfl ?_ | (refine sk ?_; intro k_ hk_; simp only [go_sem, simprocAttr, h3, h4]; (with_reducible first | refine hk_ _ _ ?_ | refine hk_ _ ?_); clear hk_ k_) | ((first | refine sg ?_ | refine sc ?_); intro x_ y_ hx_ hy_; simp only [go_sem, simprocAttr, h3, h4]; ((first | (with_reducible first | refine hx_ ?_ | refine hy_ ?_) | (with_reducible first | refine bI_split (fun h_ => hx_ ?_) (fun h_ => hy_ ?_) | refine bI_split (fun h_ => hy_ ?_) (fun h_ => hx_ ?_)) <;> try rw [h_]) <;> clear hx_ hy_ x_ y_)) | ((with_reducible first | refine hK_ _ _ ?_ | refine hK_ _ _ _ _ (Weak.refl _ _) ?_); clear hK_ K_) | clear hK_ K_)
    exact ⟨⟨h1, h2⟩, frz_self rfl rfl⟩
end Go.Abs
