/-
  One operation on the abstract heap: the evaluator, and that the machine does what it says.
-/
import Derived.Test.YtcgogenmikakkaaAbs4
import Derived.Laws.Tables
namespace Go.Abs
set_option linter.unusedVariables false
set_option linter.unusedSimpArgs false
open Go.RowKit

def zrep : Nat → List SV → List SV
  | 0, _ => []
  | n + 1, z => z ++ zrep n z

def afill (place : Nat → Option (Nat × Nat)) : List SV → List (Nat × AV) → Option (List SV)
  | cells, [] => some cells
  | cells, (i, v) :: rest =>
    match place i, v.cells with
    | some (off, size), some xs => if xs.length = size ∧ off + size ≤ cells.length then afill place (setAll cells off xs) rest else none
    | _, _ => none

def ptrs : List AV → Option (List (Nat × Nat))
  | [] => some []
  | .s (.ptr b off) :: xs => (ptrs xs).map ((b, off) :: ·)
  | _ :: _ => none

def oint : Option AV → Option (Option Int)
  | none => some none
  | some (.s (.raw (.int _ n))) => some (some n)
  | _ => none

def aslice (te : Nat → Option TI) (H : Heap) (t : Nat) (x : AV) (lo hi : Option AV) : Option (AV × Heap) :=
  match te t, oint lo, oint hi with
  | some ⟨_, _, .sli e, _, _⟩, some lo, some hi =>
    match te e, x with
    | some _, .s (.raw (.slice none 0 0)) => if lo.getD 0 = 0 ∧ hi.getD 0 = 0 then some (x, H) else none
    | some ti, .s (.sl b off len gr) =>
      match H.m b with
      | some blk =>
        if 0 ≤ lo.getD 0 ∧ lo.getD 0 ≤ hi.getD len ∧ hi.getD len ≤ len then
          if hi.getD len = 0 ∧ lo = none ∧ gr = true ∧ blk.wr = true then some (.s (.sl H.n 0 0 true), (H.set b none).push { blk with cells := [] })
          else some (.s (.sl b (off + (lo.getD 0).toNat * ti.size) ((hi.getD len).toNat - (lo.getD 0).toNat) false), H)
        else none
      | none => none
    | some ti, .s (.vs n cells) =>
      if 0 ≤ lo.getD 0 ∧ lo.getD 0 ≤ hi.getD n ∧ hi.getD n ≤ n then
        some (.s (.vs ((hi.getD n).toNat - (lo.getD 0).toNat) ((cells.drop ((lo.getD 0).toNat * ti.size)).take (((hi.getD n).toNat - (lo.getD 0).toNat) * ti.size))), H)
      else none
    | _, _ => none
  | _, _, _ => none

/-- zeros, so many as a number says, behind nil (slices.Grow) -/
def aappendZ (te : Nat → Option TI) (H : Heap) (st xt : Nat) (s x : AV) : Option (AV × Heap) :=
  match te st, te xt, s, x with
  | some ⟨_, _, .sli e, _, _⟩, some ⟨_, _, .int _, _, _⟩, .s (.raw (.slice none 0 0)), .s (.raw (.int _ m)) =>
    match te e with
    | some ti => if 0 < m ∧ m * ti.bytes ≤ 70368744177664 ∧ ti.bytes ≠ 0 ∧ ti.size ≠ 0 then some (.s (.sl H.n 0 m.toNat true), H.push { cells := zrep m.toNat (ti.zero.map .raw), esz := ti.size, wr := true }) else none
    | none => none
  | _, _, _, _ => none
def aappendX (te : Nat → Option TI) (H : Heap) (st xt : Nat) (s x : AV) : Option (AV × Heap) :=
  match te xt with
  | some ⟨_, _, .int _, _, _⟩ => aappendZ te H st xt s x
  | _ => aappend te H st xt s x

def abuiltin (te : Nat → Option TI) (H : Heap) (b : Builtin) (args : List AV) (ts : List Nat) : Option (AV × Heap) :=
  match b, args, ts with
  | .len, [x], [t] =>
    match te t, x with
    | some ⟨_, _, .sli _, _, _⟩, .s (.raw (.slice none 0 0)) => some (.s (.raw (.int .i64 0)), H)
    | some ⟨_, _, .sli _, _, _⟩, .s (.sl b _ n _) =>
      match H.m b with
      | some _ => some (.s (.raw (.int .i64 n)), H)
      | none => none
    | some ⟨_, _, .sli _, _, _⟩, .s (.vs n _) => some (.s (.raw (.int .i64 n)), H)
    | some ⟨_, _, .sli _, _, _⟩, .s .ve => some (.s (.raw (.int .i64 0)), H)
    | _, _ => none
  | .cap, [x], [t] =>
    match te t, x with
    | some ⟨_, _, .sli _, _, _⟩, .s (.raw (.slice none 0 0)) => some (.s (.raw (.int .i64 0)), H)
    | _, _ => none
  | .append, [s, x], [st, xt] => aappendX te H st xt s x
  | .max, [.s (.raw (.int k a)), .s (.raw (.int _ b))], _ => some (.s (.raw (.int k (if b > a then b else a))), H)
  | .min, [.s (.raw (.int k a)), .s (.raw (.int _ b))], _ => some (.s (.raw (.int k (if b < a then b else a))), H)
  | _, _, _ => none

def aop (te : Nat → Option TI) (σ : Slots) (H : Heap) : Op → Option (AV × Heap)
  | .move x => some (ev σ x, H)
  | .assign x => some (ev σ x, H)
  | .pick c a b =>
    match ev σ c with
    | .s (.raw (.bool t)) => some (if t then ev σ a else ev σ b, H)
    | _ => none
  | .alloc t =>
    match te t with
    | some ti => some (.s (.ptr H.n 0), H.push { cells := ti.zero.map .raw })
    | none => none
  | .box _ x =>
    match (ev σ x).cells with
    | some cs => some (.s (.ptr H.n 0), H.push { cells := cs })
    | none => none
  | .build t parts =>
    match te t with
    | some ⟨_, _, .str fs, z, _⟩ => (afill (fs[·]?) (z.map .raw) (parts.toList.map fun p => (p.1, ev σ p.2))).map fun cs => (.agg cs, H)
    | _ => none
  | .buildSlice t len parts =>
    match te t with
    | some ⟨_, _, .sli e, _, _⟩ =>
      match te e with
      | some ti =>
        if len * ti.size ≤ 16777216 ∧ ti.size ≠ 0 then
          (afill (fun i => some (i * ti.size, ti.size)) (zrep len (ti.zero.map .raw)) (parts.toList.map fun p => (p.1, ev σ p.2))).map fun cs => (.s (.sl H.n 0 len true), H.push { cells := cs, esz := ti.size })
        else none
      | none => none
    | _ => none
  | .load t a =>
    match ev σ a with
    | .s (.ptr b off) => (aload te H t b off).map (·, H)
    | .s (.vp cells) => (aloadV te t cells).map (·, H)
    | _ => none
  | .store t a x =>
    match ev σ a with
    | .s (.ptr b off) => (astore te H t b off (ev σ x)).map (.any, ·)
    | _ => none
  | .nilCheck x =>
    match ev σ x with
    | .s (.ptr b off) => match H.m b with
      | some _ => some (.s (.ptr b off), H)
      | none => none
    | .s (.vp cells) => some (.s (.vp cells), H)
    | _ => none
  | .binOp op t x y _ => (abin te H op t (ev σ x) (ev σ y)).map (·, H)
  | .unOp op _ x =>
    match op, ev σ x with
    | .not, .s (.raw (.bool b)) => some (.s (.raw (.bool !b)), H)
    | .neg, .s (.raw (.int k n)) => some (.s (.raw (.int k (k.wrap (0 - n)))), H)
    | _, _ => none
  | .convert src dst x =>
    match te src, te dst, ev σ x with
    | some _, some ⟨_, _, .int k, _, _⟩, .s (.raw (.int _ n)) => some (.s (.raw (.int k (k.wrap n))), H)
    | _, _, _ => none
  | .makeFunc (.func f) first captured =>
    if first.size = 0 then (ptrs (captured.toList.map (ev σ))).map fun ps => (.s (.fn f ps), H) else none
  | .slice t x lo hi none => aslice te H t (ev σ x) (lo.map (ev σ)) (hi.map (ev σ))
  | .fieldAddr s x f =>
    match te s, ev σ x with
    | some ⟨_, _, .str fs, _, _⟩, .s (.ptr b off) =>
      match fs[f]?, H.m b with
      | some (o, sz), some _ => if sz ≠ 0 then some (.s (.ptr b (off + o)), H) else none
      | _, _ => none
    | some ⟨_, _, .str fs, _, _⟩, .s (.vp cells) =>
      match fs[f]? with
      | some (o, sz) => if sz ≠ 0 then some (.s (.vp (cells.drop o)), H) else none
      | _ => none
    | _, _ => none
  | .indexAddr t x ix =>
    match te t, ev σ x, ev σ ix with
    | some ⟨_, _, .arr n e, _, _⟩, .s (.ptr b off), .s (.raw (.int _ i)) =>
      match te e, H.m b with
      | some ti, some _ => if 0 ≤ i ∧ i < n then some (.s (.ptr b (off + i.toNat * ti.size)), H) else none
      | _, _ => none
    | some ⟨_, _, .sli e, _, _⟩, .s (.sl b off len _), .s (.raw (.int _ i)) =>
      match te e, H.m b with
      | some ti, some _ => if 0 ≤ i ∧ i < len then some (.s (.ptr b (off + i.toNat * ti.size)), H) else none
      | _, _ => none
    | some ⟨_, _, .sli e, _, _⟩, .s (.vs n cells), .s (.raw (.int _ i)) =>
      match te e with
      | some ti => if 0 ≤ i ∧ i < n then some (.s (.vp (cells.drop (i.toNat * ti.size))), H) else none
      | _ => none
    | some ⟨_, _, .arr n e, _, _⟩, .s (.vp cells), .s (.raw (.int _ i)) =>
      match te e with
      | some ti => if 0 ≤ i ∧ i < n then some (.s (.vp (cells.drop (i.toNat * ti.size))), H) else none
      | _ => none
    | _, _, _ => none
  | .extract x i =>
    match ev σ x with
    | .tup cs => (cs[i]?).map fun c => (c.av, H)
    | _ => none
  | .call { callee := .builtin b, args := args, argTypes := ts } => abuiltin te H b (args.toList.map (ev σ)) ts.toList
  | _ => none

/-- What is owed of an operation. -/
def OpOk (P : Program) (B : Nat) (ρ : Env) (H : Heap) (w : World) (a : Act) (o : Oper) (r : AV) (H' : Heap) : Prop :=
  ∃ (nx : Next) (w' : World) (ρ' : Env), (execOp a.eval o).run P w = .ok nx w' ∧ ((∃ rv, nx = .value rv ∧ CA ρ' r rv) ∨ (nx = .skip ∧ r = .any)) ∧ Rel B ρ' H' w' ∧ Step ρ H w ρ' H' w'

theorem setAll_ok {ρ : Env} : ∀ (xs : List SV) (vs : List Value) (cells : List SV) (cs : List Value) (off k : Nat), Al2 (CS ρ) cells cs → Al2 (CS ρ) xs vs →
    Al2 (CS ρ) (setAll cells (off + k) xs) ((vs.zipIdx k).foldl (fun cs (c, j) => cs.set (off + j) c) cs)
  | [], [], cells, cs, off, k, h, _ => by simpa [setAll] using h
  | x :: xs, v :: vs, cells, cs, off, k, h, hv => by
    simp only [setAll, List.zipIdx_cons, List.foldl_cons]
    have := setAll_ok xs vs (cells.set (off + k) x) (cs.set (off + k) v) off (k + 1) ?_ hv.2
    · exact this
    · refine Al2.of_get (by simp [h.length]) fun i z hz => ?_
      by_cases e : i = off + k
      · subst e
        have hlt : off + k < cells.length := by have := (List.getElem?_eq_some_iff.1 hz).1; simpa using this
        rw [List.getElem?_set_self hlt] at hz; cases hz
        exact ⟨v, List.getElem?_set_self (by rw [← h.length]; exact hlt), hv.1⟩
      · rw [List.getElem?_set_ne (by omega)] at hz
        obtain ⟨y, hy, hr⟩ := h.get hz
        exact ⟨y, by rw [List.getElem?_set_ne (by omega)]; exact hy, hr⟩
  | [], _ :: _, _, _, _, _, _, hv => hv.elim
  | _ :: _, [], _, _, _, _, _, hv => hv.elim

theorem foldl_set_array : ∀ (l : List (Value × Nat)) (off : Nat) (c : Array Value), (l.foldl (fun cs p => cs.setIfInBounds (off + p.2) p.1) c).toList = l.foldl (fun cs p => cs.set (off + p.2) p.1) c.toList
  | [], _, _ => rfl
  | p :: l, off, c => by
    simp only [List.foldl_cons]
    rw [foldl_set_array l off]
    simp

theorem afill_ok {ρ : Env} {place : Nat → Option (Nat × Nat)} {σ : Slots} {a : Act} : ∀ (parts : List (Nat × Operand)) (cells : List SV) (cs : Array Value) (out : List SV), Al2 (CS ρ) cells cs.toList →
    (∀ p ∈ parts, CA ρ (ev σ p.2) (a.eval p.2)) → afill place cells (parts.map fun p => (p.1, ev σ p.2)) = some out →
    ∃ cs', Instr.fill place cs (parts.map fun p => (p.1, a.eval p.2)) = some cs' ∧ Al2 (CS ρ) out cs'.toList
  | [], cells, cs, out, h, _, hf => by
    simp [afill] at hf; subst hf
    exact ⟨cs, rfl, h⟩
  | (i, x) :: parts, cells, cs, out, h, hp, hf => by
    simp only [List.map_cons, afill] at hf
    split at hf
    · rename_i off size xs hpl hxs
      split at hf
      · rename_i hc
        obtain ⟨hc1, hc2⟩ := hc
        obtain ⟨vs, h1, h2⟩ := (hp (i, x) (by simp)).cells hxs
        have hsz : (a.eval x).cells.size = size := by rw [← Array.length_toList, h2, ← h1.length, hc1]
        have hcs : cells.length = cs.size := by rw [h.length]; simp
        have e1 : ((a.eval x).cells.zipIdx.foldl (fun cs (c, j) => cs.setIfInBounds (off + j) c) cs).toList = (vs.zipIdx 0).foldl (fun cs (c, j) => cs.set (off + j) c) cs.toList := by
          rw [← Array.foldl_toList, Array.toList_zipIdx, h2]
          exact foldl_set_array _ off cs
        obtain ⟨cs', h3, h4⟩ := afill_ok parts (setAll cells off xs) ((a.eval x).cells.zipIdx.foldl (fun cs (c, j) => cs.setIfInBounds (off + j) c) cs) out
          (by rw [e1]; exact setAll_ok xs vs cells cs.toList off 0 h h1) (fun p hp' => hp p (by simp [hp'])) hf
        refine ⟨cs', ?_, h4⟩
        simp only [List.map_cons, Instr.fill, hpl]
        rw [if_neg (by simp [hsz]; omega)]
        exact h3
      · cases hf
    · cases hf

theorem zero_al2 {ρ : Env} {P : Program} {t : Nat} {ti : TI} (h : TIok P t ti) : Al2 (CS ρ) (ti.zero.map .raw) ti.zero := by
  have := h.zsc
  revert this
  generalize ti.zero = z
  induction z with
  | nil => intro _; trivial
  | cons v z ih => intro hz; exact ⟨⟨rfl, hz v (by simp)⟩, ih fun u hu => hz u (by simp [hu])⟩

theorem zrep_snoc (z : List SV) : ∀ n, zrep (n + 1) z = zrep n z ++ z
  | 0 => by simp [zrep]
  | n + 1 => by
    have := zrep_snoc z n
    simp only [zrep] at this ⊢
    rw [List.append_assoc, ← this]

theorem zrow_al2 {ρ : Env} {z : List Value} {za : Array Value} (hz : za.toList = z) (h0 : z.length ≠ 0) (h : Al2 (CS ρ) (z.map .raw) z) : ∀ n, Al2 (CS ρ) (zrep n (z.map .raw)) ((List.range (n * z.length)).map fun i => za[i % za.size]!)
  | 0 => by simp [zrep, Al2]
  | n + 1 => by
    rw [zrep_snoc]
    have e : (List.range ((n + 1) * z.length)).map (fun i => za[i % za.size]!) = (List.range (n * z.length)).map (fun i => za[i % za.size]!) ++ z := by
      rw [Nat.add_mul, Nat.one_mul, List.range_add, List.map_append]
      congr 1
      apply List.ext_getElem
      · simp
      · intro i h1 h2
        have hs : za.size = z.length := by rw [← hz]; simp
        simp only [List.map_map, List.getElem_map, List.getElem_range, Function.comp_apply]
        rw [hs, Nat.mul_add_mod_self_right, Nat.mod_eq_of_lt (by simpa using h2)]
        have hi : i < za.size := by rw [hs]; simpa using h2
        rw [getElem!_pos za i hi]
        simp [← hz]
    rw [e]
    exact (zrow_al2 hz h0 h n).append h

theorem mapM_get {α β : Type} {f : α → Option β} : ∀ (l : List α) (r : List β), l.mapM f = some r → ∀ (i : Nat) (y : β), r[i]? = some y → ∃ x, l[i]? = some x ∧ f x = some y
  | [], r, h, i, y, hy => by simp at h; subst h; simp at hy
  | x :: l, r, h, i, y, hy => by
    simp only [List.mapM_cons, Option.bind_eq_bind, Option.pure_def, Option.bind_eq_some_iff] at h
    obtain ⟨y0, h1, ys, h2, h3⟩ := h
    injection h3 with h3; subst h3
    cases i with
    | zero => simp at hy; subst hy; exact ⟨x, by simp, h1⟩
    | succ i =>
      obtain ⟨x', h4, h5⟩ := mapM_get l ys h2 i y (by simpa using hy)
      exact ⟨x', by simpa using h4, h5⟩

theorem mul_mod_self_right' (a b : Nat) : (a * b) % b = 0 := Nat.mul_mod_left _ _

section
variable {P : Program} {te : Nat → Option TI} {B : Nat} {ρ : Env} {H H' : Heap} {w : World} {a : Act} {σ : Slots} {r : AV}

theorem opok_quiet {o : Oper} (hr : Rel B ρ H w) {rv : Value} (h : (execOp a.eval o).run P w = .ok (.value rv) w) (hv : CA ρ r rv) : OpOk P B ρ H w a o r H :=
  ⟨_, w, ρ, h, .inl ⟨rv, rfl, hv⟩, hr, Step.refl _ _ _⟩

theorem ptr_at (hr : Rel B ρ H w) {b off : Nat} {v : Value} (h : CA ρ (.s (.ptr b off)) v) {x : Blk} (hx : H.m b = some x) : ∃ cb co cc, ρ b = .at_ cb co cc ∧ v = .pointer (some ⟨cb, co + off, none⟩) := by
  simp only [CA, CS, PC] at h
  split at h
  · exact h.elim
  · rename_i hd; exact absurd hd (hr.live b x hx)
  · rename_i cb co cc hat; exact ⟨cb, co, cc, hat, h⟩

theorem sl_at (hr : Rel B ρ H w) {b off len : Nat} {gr : Bool} {v : Value} (h : CA ρ (.s (.sl b off len gr)) v) {x : Blk} (hx : H.m b = some x) :
    ∃ cb co cc o c, ρ b = .at_ cb co cc ∧ len ≤ c ∧ (len ≠ 0 → o = co + off) ∧ v = .slice (some ⟨cb, o, none⟩) len c ∧ (gr = true → off = 0 ∧ o = co ∧ c = cc) := by
  simp only [CA, CS, LC] at h
  split at h
  · exact h.elim
  · rename_i hd; exact absurd hd (hr.live b x hx)
  · rename_i cb co cc hat
    split at h
    · obtain ⟨rfl, h1, h2⟩ := h; exact ⟨cb, co, cc, co, cc, hat, h1, fun _ => by omega, h2, fun _ => ⟨rfl, rfl, rfl⟩⟩
    · obtain ⟨c, o, h1, h2, h3⟩ := h; exact ⟨cb, co, cc, o, c, hat, h1, h2, h3, fun h => by cases h⟩

theorem aload_live {t b off : Nat} {av : AV} (h : aload te H t b off = some av) : ∃ x, H.m b = some x := by
  unfold aload at h
  split at h
  · rename_i hx; exact ⟨_, hx⟩
  · cases h

theorem astore_live {t b off : Nat} {av : AV} (h : astore te H t b off av = some H') : ∃ x, H.m b = some x := by
  unfold astore at h
  split at h
  · rename_i hx _; exact ⟨_, hx⟩
  · cases h

theorem ok_load (hte : TEok P te) (hr : Rel B ρ H w) {o : Oper} {t : Nat} {x : Operand} (ho : o.op = .load t x) (hx : CA ρ (ev σ x) (a.eval x)) (h : aop te σ H o.op = some (r, H')) : OpOk P B ρ H w a o r H' := by
  rw [ho] at h
  simp only [aop] at h
  split at h
  · rename_i b off he
    rw [Option.map_eq_some_iff] at h
    obtain ⟨av, h1, h2⟩ := h
    cases h2
    obtain ⟨xb, hxb⟩ := aload_live h1
    rw [he] at hx
    obtain ⟨cb, co, cc, hat, hv⟩ := ptr_at hr hx hxb
    obtain ⟨cv, h3, h4⟩ := aload_ok hte h1 hr hat
    exact opok_quiet hr (by simp [execOp, ho, Instr.loadAt, hv, Instr.sureAddr, h3]) h4
  · rename_i cells he
    rw [Option.map_eq_some_iff] at h
    obtain ⟨av, h1, h2⟩ := h
    cases h2
    rw [he] at hx
    simp only [CA, CS] at hx
    obtain ⟨cb, co, hv, hm⟩ := hx
    obtain ⟨cv, h3, h4⟩ := aloadV_ok hte h1 hr hm
    exact opok_quiet hr (by simp [execOp, ho, Instr.loadAt, hv, Instr.sureAddr, h3]) h4
  · cases h

theorem ok_store (hte : TEok P te) (hr : Rel B ρ H w) {o : Oper} {t : Nat} {x y : Operand} (ho : o.op = .store t x y) (hx : CA ρ (ev σ x) (a.eval x)) (hy : CA ρ (ev σ y) (a.eval y)) (h : aop te σ H o.op = some (r, H')) : OpOk P B ρ H w a o r H' := by
  rw [ho] at h
  simp only [aop] at h
  split at h
  · rename_i b off he
    rw [Option.map_eq_some_iff] at h
    obtain ⟨H1, h1, h2⟩ := h
    cases h2
    obtain ⟨xb, hxb⟩ := astore_live h1
    rw [he] at hx
    obtain ⟨cb, co, cc, hat, hv⟩ := ptr_at hr hx hxb
    obtain ⟨w', h3, h4, h5⟩ := astore_ok hte h1 hr hat hy
    exact ⟨.skip, w', ρ, by simp [execOp, ho, Instr.storeAt, hv, Instr.sureAddr, h3], .inr ⟨rfl, rfl⟩, h4, h5⟩
  · cases h

theorem ok_alloc (hte : TEok P te) (hr : Rel B ρ H w) {o : Oper} {t : Nat} (ho : o.op = .alloc t) (h : aop te σ H o.op = some (r, H')) : OpOk P B ρ H w a o r H' := by
  rw [ho] at h
  simp only [aop] at h
  split at h
  · rename_i ti hti
    injection h with h; cases h
    have ht := hte _ _ hti
    obtain ⟨z, hz, hz'⟩ := ht.zeroValue w
    obtain ⟨h1, h2⟩ := hr.new (ti.zero.map .raw) z.cells t 0 0 (fun j sv hj => by
      obtain ⟨v, h1, h2⟩ := (zero_al2 (ρ := ρ) ht).get hj
      exact ⟨v, by rw [← Array.getElem?_toList, hz']; exact h1, h2⟩) (fun h0 => absurd rfl h0)
    refine ⟨.value (.pointer (some ⟨w.heap.size, 0, none⟩)), _, _, ?_, .inl ⟨_, rfl, ?_⟩, h1, h2⟩
    · simp [execOp, ho, Instr.alloc, hz, newVar, newRow]
    · simp [CA, CS, PC]
  · cases h

theorem ok_box (hr : Rel B ρ H w) {o : Oper} {t : Nat} {x : Operand} (ho : o.op = .box t x) (hx : CA ρ (ev σ x) (a.eval x)) (h : aop te σ H o.op = some (r, H')) : OpOk P B ρ H w a o r H' := by
  rw [ho] at h
  simp only [aop] at h
  split at h
  · rename_i cs hcs
    injection h with h; cases h
    obtain ⟨vs, h1, h2⟩ := hx.cells hcs
    obtain ⟨h3, h4⟩ := hr.new cs (a.eval x).cells t 0 0 (fun j sv hj => by
      obtain ⟨v, h5, h6⟩ := h1.get hj
      exact ⟨v, by rw [← Array.getElem?_toList, h2]; exact h5, h6⟩) (fun h0 => absurd rfl h0)
    refine ⟨.value (.pointer (some ⟨w.heap.size, 0, none⟩)), _, _, ?_, .inl ⟨_, rfl, ?_⟩, h3, h4⟩
    · simp [execOp, ho, Instr.box, newVar, newRow]
    · simp [CA, CS, PC]
  · cases h

theorem ok_fieldAddr (hte : TEok P te) (hr : Rel B ρ H w) {o : Oper} {s f : Nat} {x : Operand} (ho : o.op = .fieldAddr s x f) (hx : CA ρ (ev σ x) (a.eval x)) (h : aop te σ H o.op = some (r, H')) : OpOk P B ρ H w a o r H' := by
  rw [ho] at h
  simp only [aop] at h
  split at h
  · rename_i _ _ fs _ _ b off hti he
    split at h
    · rename_i fo sz blk hf hb
      split at h
      · rename_i hsz
        injection h with h; cases h
        rw [he] at hx
        obtain ⟨cb, co, cc, hat, hv⟩ := ptr_at hr hx hb
        obtain ⟨fields, hu, hfs⟩ := (hte _ _ hti).kind
        obtain ⟨fl, hfl, hfe⟩ := mapM_get _ _ hfs _ _ hf
        rw [Option.map_eq_some_iff] at hfe
        obtain ⟨fi, hfi, hfe⟩ := hfe
        cases hfe
        rw [Array.getElem?_toList] at hfl
        have hsz' : (Go.sizeOf fl.type).run P w = .ok fi.size w := by simp [Go.sizeOf, typeInfo, hfi]
        refine opok_quiet hr (rv := .pointer (some ⟨cb, co + (off + fl.offset), none⟩)) ?_ (by simp [CA, CS, PC, hat])
        simp [execOp, ho, Instr.fieldAt, Go.run_underlying hu, hfl, hv, Instr.sureAddr, fieldPlace, hsz', hsz, Addr.add_lit, Nat.add_assoc]
      · cases h
    · cases h
  · rename_i _ _ fs _ _ cells hti he
    split at h
    · rename_i fo sz hf
      split at h
      · rename_i hsz
        injection h with h; cases h
        rw [he] at hx
        simp only [CA, CS] at hx
        obtain ⟨cb, co, hv, hm⟩ := hx
        obtain ⟨fields, hu, hfs⟩ := (hte _ _ hti).kind
        obtain ⟨fl, hfl, hfe⟩ := mapM_get _ _ hfs _ _ hf
        rw [Option.map_eq_some_iff] at hfe
        obtain ⟨fi, hfi, hfe⟩ := hfe
        cases hfe
        rw [Array.getElem?_toList] at hfl
        have hsz' : (Go.sizeOf fl.type).run P w = .ok fi.size w := by simp [Go.sizeOf, typeInfo, hfi]
        refine opok_quiet hr (rv := .pointer (some ⟨cb, co + fl.offset, none⟩)) ?_ (by simp only [CA, CS]; exact ⟨cb, _, rfl, MS_drop hm _⟩)
        simp [execOp, ho, Instr.fieldAt, Go.run_underlying hu, hfl, hv, Instr.sureAddr, fieldPlace, hsz', hsz, Addr.add_lit]
      · cases h
    · cases h
  · cases h

theorem ok_indexAddr (hte : TEok P te) (hr : Rel B ρ H w) {o : Oper} {t : Nat} {x ix : Operand} (ho : o.op = .indexAddr t x ix) (hx : CA ρ (ev σ x) (a.eval x)) (hi : CA ρ (ev σ ix) (a.eval ix)) (h : aop te σ H o.op = some (r, H')) : OpOk P B ρ H w a o r H' := by
  rw [ho] at h
  simp only [aop] at h
  split at h
  · rename_i _ _ n e _ _ b off k i hti he hei
    split at h
    · rename_i ti blk hte' hb
      split at h
      · rename_i hlt
        injection h with h; cases h
        rw [he] at hx; rw [hei] at hi
        obtain ⟨hi, _⟩ := hi
        obtain ⟨cb, co, cc, hat, hv⟩ := ptr_at hr hx hb
        have hu : P.underlying t = some (.array n e) := (hte _ _ hti).kind
        refine opok_quiet hr (rv := .pointer (some ⟨cb, co + (off + i.toNat * ti.size), none⟩)) ?_ (by simp [CA, CS, PC, hat])
        simp [execOp, ho, Instr.indexAt, asIntOf, hi, Go.run_underlying hu, hv, Instr.sureAddr, hlt, (hte _ _ hte').sizeOf, Addr.add_lit, Nat.add_assoc]
      · cases h
    · cases h
  · rename_i _ _ e _ _ b off len gr k i hti he hei
    split at h
    · rename_i ti blk hte' hb
      split at h
      · rename_i hlt
        injection h with h; cases h
        rw [he] at hx; rw [hei] at hi
        obtain ⟨hi, _⟩ := hi
        obtain ⟨cb, co, cc, oo, c, hat, hlc, hoo, hv, _⟩ := sl_at hr hx hb
        have hu : P.underlying t = some (.slice e) := (hte _ _ hti).kind
        have hoo := hoo (by omega)
        subst hoo
        refine opok_quiet hr (rv := .pointer (some ⟨cb, co + (off + i.toNat * ti.size), none⟩)) ?_ (by simp [CA, CS, PC, hat])
        simp [execOp, ho, Instr.indexAt, asIntOf, hi, Go.run_underlying hu, hv, hlt, (hte _ _ hte').sizeOf, Addr.add_lit, Nat.add_assoc]
      · cases h
    · cases h
  · rename_i _ _ e _ _ n cells k i hti he hei
    split at h
    · rename_i ti hte'
      split at h
      · rename_i hlt
        injection h with h; cases h
        rw [he] at hx; rw [hei] at hi
        simp only [CA, CS] at hx hi
        obtain ⟨hi, _⟩ := hi
        obtain ⟨ad, c, cb, co, hv, hlc, ha, _, hm⟩ := hx
        have hu : P.underlying t = some (.slice e) := (hte _ _ hti).kind
        have ha := ha (by omega)
        subst ha
        refine opok_quiet hr (rv := .pointer (some ⟨cb, co + i.toNat * ti.size, none⟩)) ?_ (by simp only [CA, CS]; exact ⟨cb, _, rfl, MS_drop hm _⟩)
        simp [execOp, ho, Instr.indexAt, asIntOf, hi, Go.run_underlying hu, hv, hlt, (hte _ _ hte').sizeOf, Addr.add_lit]
      · cases h
    · cases h
  · rename_i _ _ n e _ _ cells k i hti he hei
    split at h
    · rename_i ti hte'
      split at h
      · rename_i hlt
        injection h with h; cases h
        rw [he] at hx; rw [hei] at hi
        simp only [CA, CS] at hx hi
        obtain ⟨hi, _⟩ := hi
        obtain ⟨cb, co, hv, hm⟩ := hx
        have hu : P.underlying t = some (.array n e) := (hte _ _ hti).kind
        refine opok_quiet hr (rv := .pointer (some ⟨cb, co + i.toNat * ti.size, none⟩)) ?_ (by simp only [CA, CS]; exact ⟨cb, _, rfl, MS_drop hm _⟩)
        simp [execOp, ho, Instr.indexAt, asIntOf, hi, Go.run_underlying hu, hv, Instr.sureAddr, hlt, (hte _ _ hte').sizeOf, Addr.add_lit]
      · cases h
    · cases h
  · cases h

theorem ok_build (hte : TEok P te) (hr : Rel B ρ H w) {o : Oper} {t : Nat} {parts : Array (Nat × Operand)} (ho : o.op = .build t parts) (hp : ∀ p ∈ parts.toList, CA ρ (ev σ p.2) (a.eval p.2)) (h : aop te σ H o.op = some (r, H')) : OpOk P B ρ H w a o r H' := by
  rw [ho] at h
  simp only [aop] at h
  split at h
  · rename_i _ _ fs z _ hti
    rw [Option.map_eq_some_iff] at h
    obtain ⟨cs, h1, h2⟩ := h
    cases h2
    have ht := hte _ _ hti
    obtain ⟨zv, hz, hz'⟩ := ht.zeroValue w
    obtain ⟨fields, hu, hfs⟩ := ht.kind
    obtain ⟨cs', h3, h4⟩ := afill_ok (ρ := ρ) (σ := σ) (a := a) parts.toList (z.map .raw) zv.cells cs (by rw [hz']; exact zero_al2 ht) hp h1
    obtain ⟨i, hi, _, _, zv', hzv, _⟩ := ht.info
    have hzz : zv' = zv := by
      have : (Go.zeroValue t).run P w = .ok zv' w := by simp [Go.zeroValue, typeInfo, hi, hzv]
      rw [hz] at this; cases this; rfl
    subst hzz
    refine opok_quiet hr (rv := .agg cs') ?_ ⟨cs'.toList, h4, by simp⟩
    have hb : P.built t (parts.map fun p => (p.1, a.eval p.2)).toList = some cs' := by
      simp only [Program.built, hi, hu, hzv, hfs, Array.toList_map]
      simpa using h3
    have := run_build (P := P) w t _ _ hb
    simp [execOp, ho, this]
  · cases h

end


theorem aappendX_ok {P : Program} {te : Nat → Option TI} (hte : TEok P te) {B : Nat} {ρ : Env} {H H' : Heap} {w : World} (hr : Rel B ρ H w) {st xt ty : Nat} {s x r : AV} {sv xv : Value} (hs : CA ρ s sv) (hx : CA ρ x xv)
    (h : aappendX te H st xt s x = some (r, H')) :
    ∃ rv w' ρ', (Builtin.append_ #[st, xt] ty #[sv, xv]).run P w = .ok rv w' ∧ CA ρ' r rv ∧ Rel B ρ' H' w' ∧ Step ρ H w ρ' H' w' := by
  unfold aappendX at h
  split at h
  case h_2 => exact aappend_ok hte hr hs hx h
  unfold aappendZ at h
  split at h
  case h_2 => cases h
  rename_i _ _ e _ _ _ _ k' _ _ _ m hst hxt
  split at h
  case h_2 => cases h
  rename_i ti hti
  split at h
  case isFalse => cases h
  rename_i hc
  obtain ⟨hm, hb, hb0, hsz0⟩ := hc
  injection h with h; cases h
  obtain ⟨rfl, _⟩ := hs
  obtain ⟨rfl, _⟩ := hx
  have hks : P.underlying st = some (.slice e) := (hte _ _ hst).kind
  have hkx : P.underlying xt = some (.int k') := (hte _ _ hxt).kind
  obtain ⟨i, hi, hi1, hi2, z, hz, hz'⟩ := (hte _ _ hti).info
  have hzsz := (hte _ _ hti).zsz
  have hzs : z.cells.size = ti.size := by rw [← Array.length_toList, hz', hzsz]
  obtain ⟨n, rfl⟩ : ∃ n : Nat, m = n := ⟨m.toNat, by omega⟩
  simp only [Int.toNat_natCast]
  have hn : 0 < n := by omega
  have eb : ((n * ti.bytes : Nat) : Int) = (n : Int) * (ti.bytes : Int) := Int.natCast_mul _ _
  have hb' : n * ti.bytes ≤ 70368744177664 := by rw [← eb] at hb; omega
  have hnb : n ≤ 70368744177664 := Nat.le_trans (Nat.le_mul_of_pos_right _ (by omega)) hb'
  have hwr : IntKind.i64.wrap (n : Int) = n := by rw [IntKind.wrap_i64]; omega
  have h48' := nextcap_ok (need := n) (old := 0) (by omega) hb'
  have hge := grownCap_ge w n 0 e
  have hal : Al2 (CS ρ) (zrep n (ti.zero.map .raw)) (Builtin.zeroCells z.cells n).toList := by
    have := zrow_al2 (za := z.cells) hz' (by rw [hzsz]; exact hsz0) (zero_al2 (ρ := ρ) (hte _ _ hti)) n
    simpa [Builtin.zeroCells, hzs, hzsz] using this
  have hsz1 : (Builtin.zeroCells z.cells n).size = n * ti.size := by rw [size_zeroCells, hzs]
  obtain ⟨hr', hstep'⟩ := (hr.drew (w.drawn + 1)).new (zrep n (ti.zero.map .raw)) (Builtin.zeroCells z.cells n ++ Builtin.zeroCells z.cells (grownCap w n 0 e - n)) e ti.size (grownCap w n 0 e)
    (fun j sv hj => by
      obtain ⟨v, h1, h2⟩ := hal.get hj
      refine ⟨v, ?_, h2⟩
      have hlt : j < (Builtin.zeroCells z.cells n).toList.length := (List.getElem?_eq_some_iff.1 h1).1
      rw [Array.getElem?_append_left (by simpa using hlt)]
      simpa using h1)
    (fun _ => by
      rw [Array.size_append, hsz1, size_zeroCells, hzs, ← Nat.add_mul]
      exact Nat.mul_le_mul_right _ (by omega))
  refine ⟨.slice (some ⟨w.heap.size, 0, none⟩) n (grownCap w n 0 e), _, _, ?_, ?_, hr', (Step.drew (w.drawn + 1)).trans hstep'⟩
  · have h0 : ¬ (n : Int) < 0 := by omega
    have h1 : ¬ (281474976710656 < (n : Int) * (ti.bytes : Int)) := by rw [← eb]; omega
    have h2 : ¬ (9223372036854775807 < (n : Int)) := by omega
    have h3 : n ≠ 0 := by omega
    simp [Builtin.append_, Go.run_underlying hks, Go.run_underlying hkx, sizeOf, typeInfo, zeroValue, hi, hi1, hi2, hz, asInt, asIntOf, hwr, h0, h1, h2, h3, hb0, hsz0, h48', Question.forced, run_firstCells_none, newRow, grownCap]
    intro h4
    exact absurd h4 (by have := Nat.mul_pos hn (Nat.pos_of_ne_zero hsz0); omega)
  · simp [CA, CS, LC, hge]
end Go.Abs
