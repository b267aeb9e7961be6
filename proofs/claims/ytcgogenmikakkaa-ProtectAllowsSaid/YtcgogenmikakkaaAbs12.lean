/-
  Lists: those that do not change any more, and those that grow; loops over a range of numbers.
-/
import Derived.Test.YtcgogenmikakkaaS0
namespace Go.Abs
set_option linter.unusedVariables false
set_option linter.unusedSimpArgs false
open Go.RowKit

/-! ### Lists that do not change any more -/
section
variable {α : Type} {f : α → List SV} {sz : Nat}
def FL (f : α → List SV) (l : List α) : List SV := l.flatMap f
abbrev LV (f : α → List SV) (l : List α) : SV := .vs l.length (FL f l)
theorem FL_nil : FL f [] = [] := rfl
theorem FL_cons (a : α) (l : List α) : FL f (a :: l) = f a ++ FL f l := rfl
theorem FL_one (a : α) : FL f [a] = f a := by simp [FL]
theorem FL_app (l m : List α) : FL f (l ++ m) = FL f l ++ FL f m := by simp [FL]
theorem FL_len (hf : ∀ a, (f a).length = sz) : ∀ (l : List α), (FL f l).length = l.length * sz
  | [] => by simp [FL]
  | a :: l => by rw [FL_cons, List.length_append, hf, FL_len hf l, List.length_cons, Nat.add_mul]; omega
theorem FL_all (hp : ∀ a, (f a).all pers = true) : ∀ (l : List α), (FL f l).all pers = true
  | [] => rfl
  | a :: l => by rw [FL_cons, List.all_append, hp, FL_all hp l]; rfl
theorem FL_pers (hp : ∀ a, (f a).all pers = true) (l : List α) : ∀ sv ∈ FL f l, pers sv = true := List.all_eq_true.1 (FL_all hp l)
theorem FL_drop (hf : ∀ a, (f a).length = sz) : ∀ (l : List α) (i : Nat), (FL f l).drop (i * sz) = FL f (l.drop i)
  | l, 0 => by simp
  | [], i + 1 => by simp [FL]
  | a :: l, i + 1 => by
    rw [FL_cons, show (i + 1) * sz = (f a).length + i * sz by rw [hf, Nat.add_mul]; omega, ← List.drop_drop, List.drop_left, FL_drop hf l i]
    rfl
theorem FL_take (hf : ∀ a, (f a).length = sz) : ∀ (l : List α) (i : Nat), (FL f l).take (i * sz) = FL f (l.take i)
  | l, 0 => by simp [FL]
  | [], i + 1 => by simp [FL]
  | a :: l, i + 1 => by
    rw [FL_cons, show (i + 1) * sz = (f a).length + i * sz by rw [hf, Nat.add_mul]; omega, List.take_length_add_append, FL_take hf l i]
    rfl
theorem FL_at (hf : ∀ a, (f a).length = sz) {l : List α} {i : Nat} {a : α} (ha : l[i]? = some a) : (FL f l).drop (i * sz) = f a ++ FL f (l.drop (i + 1)) := by
  have hi : i < l.length := (List.getElem?_eq_some_iff.1 ha).1
  rw [FL_drop hf, List.drop_eq_getElem_cons hi, FL_cons]
  rw [List.getElem?_eq_getElem hi] at ha; injection ha with ha; rw [ha]
theorem setAll_mid : ∀ (vs ws us rs : List SV), ws.length = vs.length → setAll (us ++ ws ++ rs) us.length vs = us ++ vs ++ rs
  | [], ws, us, rs, h => by cases ws with
    | nil => rfl
    | cons => simp at h
  | v :: vs, w :: ws, us, rs, h => by
    simp only [setAll]
    have e : (us ++ w :: ws ++ rs).set us.length v = (us ++ [v]) ++ ws ++ rs := by simp
    rw [e, show us.length + 1 = (us ++ [v]).length by simp, setAll_mid vs ws (us ++ [v]) rs (by simpa using h)]
    simp
  | _ :: _, [], _, _, h => by simp at h
theorem split_at {l : List α} {i : Nat} {a : α} (ha : l[i]? = some a) : l = l.take i ++ a :: l.drop (i + 1) ∧ (l.take i).length = i := by
  have hi : i < l.length := (List.getElem?_eq_some_iff.1 ha).1
  refine ⟨?_, by simp; omega⟩
  rw [List.getElem?_eq_getElem hi] at ha; injection ha with ha
  rw [← ha, ← List.drop_eq_getElem_cons hi, List.take_append_drop]
theorem set_at {l : List α} {i : Nat} {a : α} (ha : l[i]? = some a) (b : α) : l.set i b = l.take i ++ b :: l.drop (i + 1) := by
  have hi : i < l.length := (List.getElem?_eq_some_iff.1 ha).1
  rw [List.set_eq_take_append_cons_drop, if_pos hi]
/-- an element is stored -/
theorem FL_setAll (hf : ∀ a, (f a).length = sz) {l : List α} {i : Nat} {a : α} (ha : l[i]? = some a) (b : α) : setAll (FL f l) (i * sz) (f b) = FL f (l.set i b) := by
  obtain ⟨h1, h2⟩ := split_at ha
  have hl : (FL f (l.take i)).length = i * sz := by rw [FL_len hf, h2]
  have h3 : FL f l = FL f (l.take i) ++ f a ++ FL f (l.drop (i + 1)) := by
    conv => lhs; rw [h1]
    rw [FL_app, FL_cons, List.append_assoc]
  rw [set_at ha, FL_app, FL_cons, h3, ← hl, setAll_mid _ _ _ _ (by rw [hf, hf]), List.append_assoc]
/-- a cell of an element is stored -/
theorem FL_set (hf : ∀ a, (f a).length = sz) {l : List α} {i : Nat} {a : α} (ha : l[i]? = some a) {j : Nat} (hj : j < sz) {b : α} {x : SV} (hb : (f a).set j x = f b) : (FL f l).set (i * sz + j) x = FL f (l.set i b) := by
  obtain ⟨h1, h2⟩ := split_at ha
  have hl : (FL f (l.take i)).length = i * sz := by rw [FL_len hf, h2]
  have h3 : FL f l = FL f (l.take i) ++ (f a ++ FL f (l.drop (i + 1))) := by
    conv => lhs; rw [h1]
    rw [FL_app, FL_cons]
  rw [set_at ha, FL_app, FL_cons, h3, List.set_append, if_neg (by omega), List.set_append, if_pos (by rw [hf]; omega), ← hb]
  congr 3
  omega
end

/-! ### Lists that grow -/
/-- a list that was made since: it can grow -/
def IsGc (n : Nat) (H : Heap) (sz : Nat) (y : SV) (len : Nat) (cells : List SV) : Prop :=
  (y = .raw (.slice none 0 0) ∧ len = 0 ∧ cells = []) ∨ ∃ b, y = .sl b 0 len true ∧ n ≤ b ∧ b < H.n ∧ H.m b = some { cells := cells, esz := sz, wr := true }
abbrev IsG {α : Type} (f : α → List SV) (sz n : Nat) (H : Heap) (y : SV) (l : List α) : Prop := IsGc n H sz y l.length (FL f l)
/-- they have no block in common -/
def Sep (y z : SV) : Prop := ∀ b m k, y = .sl b 0 m true → z = .sl b 0 k true → False
theorem Sep.symm {y z : SV} (h : Sep y z) : Sep z y := fun b m k h1 h2 => h b k m h2 h1
theorem Sep.nil {z : SV} : Sep (.raw (.slice none 0 0)) z := fun _ _ _ h _ => by cases h

theorem HExt.lt {a b : Heap} (h : HExt a b) {k : Nat} (hk : k < a.n) : b.m k = a.m k := h.2 k hk
section
variable {n sz len : Nat} {H H' : Heap} {y z : SV} {cells : List SV}
theorem IsGc.nil : IsGc n H sz (.raw (.slice none 0 0)) 0 [] := .inl ⟨rfl, rfl, rfl⟩
theorem IsG.nil {α : Type} {f : α → List SV} : IsG f sz n H (.raw (.slice none 0 0)) [] := .inl ⟨rfl, rfl, rfl⟩
theorem IsGc.mk {b m : Nat} (h1 : n ≤ b) (h2 : b < H.n) (h3 : H.m b = some { cells := cells, esz := sz, wr := true }) (h4 : m = len) : IsGc n H sz (.sl b 0 m true) len cells := .inr ⟨b, by rw [h4], h1, h2, h3⟩
theorem IsGc.keep (h : IsGc n H sz y len cells) (hn : H.n ≤ H'.n) (hk : ∀ b, b < H.n → n ≤ b → y = .sl b 0 len true → H'.m b = H.m b) : IsGc n H' sz y len cells := by
  rcases h with h | ⟨b, h1, h2, h3, h4⟩
  · exact .inl h
  · exact .inr ⟨b, h1, h2, Nat.lt_of_lt_of_le h3 hn, (hk b h3 h2 h1).trans h4⟩
theorem IsGc.ext (h : IsGc n H sz y len cells) (hx : HExt H H') : IsGc n H' sz y len cells := h.keep hx.1 fun b hb _ _ => hx.2 b hb
theorem IsGc.less {m : Nat} (h : IsGc n H sz y len cells) (hm : m ≤ n) : IsGc m H sz y len cells := by
  rcases h with h | ⟨b, h1, h2, h3, h4⟩
  · exact .inl h
  · exact .inr ⟨b, h1, Nat.le_trans hm h2, h3, h4⟩
theorem IsGc.lt {b k : Nat} (h : IsGc n H sz (.sl b 0 k true) len cells) : n ≤ b ∧ b < H.n := by
  rcases h with ⟨h, _⟩ | ⟨b', h1, h2, h3, h4⟩
  · cases h
  · injection h1 with h1; subst h1; exact ⟨h2, h3⟩
theorem IsGc.frz (h : IsGc n H sz y len cells) (hc : ∀ sv ∈ cells, pers sv = true) : ∃ H2, Frz n H y (.vs len cells) H2 ∧ H2.n = H.n ∧ ∀ b, b < H.n → (∀ m, y ≠ .sl b 0 m true) → H2.m b = H.m b := by
  rcases h with ⟨rfl, rfl, rfl⟩ | ⟨b, rfl, h2, h3, h4⟩
  · exact ⟨H, .inr (.inl ⟨rfl, rfl, rfl⟩), rfl, fun _ _ _ => rfl⟩
  · exact ⟨H.set b none, .inr (.inr ⟨b, 0, len, true, _, cells.length, rfl, h2, h4, rfl, hc, by simp, rfl⟩), rfl, fun b' _ hne => Heap.set_ne _ _ _ fun e => hne len (by rw [e])⟩
end

/-- y has become y', all else is as it was -/
structure Keep (y : SV) (H : Heap) (y' : SV) (H' : Heap) : Prop where
  n : H.n ≤ H'.n
  keep : ∀ b, b < H.n → (∀ m, y ≠ .sl b 0 m true) → H'.m b = H.m b
  fresh : ∀ b m, y' = .sl b 0 m true → H.n ≤ b ∨ y = .sl b 0 m true
theorem Keep.of {y y' : SV} {Hb H H' : Heap} (h : Keep y H y' H') (hx : HExt Hb H) : Keep y Hb y' H' :=
  ⟨Nat.le_trans hx.1 h.n, fun b hb hy => (h.keep b (Nat.lt_of_lt_of_le hb hx.1) hy).trans (hx.2 b hb), fun b m hm => (h.fresh b m hm).imp (fun h1 => Nat.le_trans hx.1 h1) id⟩
/-- beside one that has grown, the other one -/
theorem Sep.grow {n sz len : Nat} {H H' : Heap} {y y' z : SV} {cells : List SV} (hs : Sep y z) (hz : IsGc n H sz z len cells) (hk : Keep y H y' H') : Sep y' z := by
  intro b k1 k2 h1 h2
  rcases hk.fresh b k1 h1 with h | h
  · subst h2
    have := hz.lt; omega
  · exact hs b k1 k2 h h2
theorem IsGc.beside {n sz len : Nat} {H H' : Heap} {y y' z : SV} {cells : List SV} (hz : IsGc n H sz z len cells) (hs : Sep y z) (hk : Keep y H y' H') : IsGc n H' sz z len cells :=
  hz.keep hk.n fun b hb _ he => hk.keep b hb fun m hy => hs b m _ hy he

/-- **append**: the list has grown, by whatever -/
theorem aappend_G {te : Nat → Option TI} {n sz len e st xt k : Nat} {H : Heap} {y : SV} {cells news : List SV} {x : AV} {ti : TI} {a1 a2 b1 b2 e' : Nat} {a3 b3 : List Value} {a4 b4 : Bool}
    (hst : te st = some ⟨a1, a2, .sli e, a3, a4⟩) (hxt : te xt = some ⟨b1, b2, .sli e', b3, b4⟩) (hti : te e = some ti) (hsz : ti.size = sz) (hsz0 : sz ≠ 0) (hb0 : ti.bytes ≠ 0)
    (hg : IsGc n H sz y len cells) (hcl : cells.length = len * sz) (hsrc : asrc te H e xt x = some (k, news)) (hnews : news.length = k * sz) (hn : n ≤ H.n) (hcap : (len + k) * ti.bytes ≤ 70368744177664) :
    ∃ y' H', aappendX te H st xt (.s y) x = some (.s y', H') ∧ IsGc n H' sz y' (len + k) (cells ++ news) ∧ H.n ≤ H'.n ∧ (∀ b, b < H.n → (∀ m, y ≠ .sl b 0 m true) → H'.m b = H.m b) ∧ (∀ b m, y' = .sl b 0 m true → H.n ≤ b ∨ y = .sl b 0 m true) := by
  have e1 : aappendX te H st xt (.s y) x = aappend te H st xt (.s y) x := by simp only [aappendX, hxt]
  rw [e1]
  unfold aappend
  simp only [hst, hti, hsrc]
  by_cases hk : k = 0
  · subst hk
    have : news = [] := List.length_eq_zero_iff.1 (by rw [hnews]; simp)
    subst this
    rcases hg with ⟨rfl, rfl, rfl⟩ | ⟨b, rfl, h2, h3, h4⟩
    · exact ⟨.raw (.slice none 0 0), H, by simp, .inl ⟨rfl, rfl, rfl⟩, Nat.le_refl _, fun _ _ _ => rfl, fun _ _ h => .inr h⟩
    · exact ⟨.sl b 0 len true, H, by simp [h4], .inr ⟨b, rfl, h2, h3, by simpa using h4⟩, Nat.le_refl _, fun _ _ _ => rfl, fun _ _ h => .inr h⟩
  · rcases hg with ⟨rfl, rfl, rfl⟩ | ⟨b, rfl, h2, h3, h4⟩
    · have hc : k * ti.bytes ≤ 70368744177664 := by simpa using hcap
      refine ⟨.sl H.n 0 k true, H.push { cells := news, esz := ti.size, wr := true }, by simp [hk, hc, hb0], .inr ⟨H.n, by simp, hn, by simp, by simp [hsz]⟩, by simp, fun b hb _ => Heap.push_ne _ _ (by omega), fun b m h => ?_⟩
      injection h with h; left; omega
    · refine ⟨.sl H.n 0 (len + k) true, (H.set b none).push { cells := cells ++ news, esz := sz, wr := true }, ?_, .inr ⟨H.n, rfl, hn, by simp, ?_⟩, by simp, fun b' hb' hne => ?_, fun b' m h => ?_⟩
      · simp [h4, hk, hb0, hcap, hsz, hsz0, hcl]
      · have : ((H.set b none).push { cells := cells ++ news, esz := sz, wr := true }).m H.n = some { cells := cells ++ news, esz := sz, wr := true } := Heap.push_same (H.set b none) _
        exact this
      · rw [Heap.push_ne _ _ (by simp; omega)]
        exact Heap.set_ne _ _ _ fun e => hne len (by rw [e])
      · injection h with h; left; omega

section
variable {P : Program} {te : Nat → Option TI} {σ : Slots} {H : Heap} {Q : Post}
theorem vops_mono {all : Array Oper} {K K' : Slots → Heap → Prop} (h : ∀ σ H, K σ H → K' σ H) : ∀ (l : List Oper) (σ : Slots) (H : Heap), VOps P te all l σ H K → VOps P te all l σ H K'
  | [], σ, H, hv => h σ H hv
  | o :: rest, σ, H, hv => by
    simp only [VOps] at hv ⊢
    split at hv
    · split at hv
      · obtain ⟨R, h1, h2⟩ := hv
        exact ⟨R, h1, fun r H' hR => vops_mono h rest _ _ (h2 r H' hR)⟩
      · split at hv
        · exact vops_mono h rest _ _ hv
        · exact hv.elim
    · exact vops_mono h rest _ _ hv
    · exact hv.elim
theorem vd_mono {all : Array Oper} {K K' : Slots → Heap → Prop} (h : ∀ σ H, K σ H → K' σ H) : ∀ (l : List Oper) (σ : Slots) (H : Heap), VD P te all l σ H K → VD P te all l σ H K'
  | [], σ, H, hv => h σ H hv
  | o :: rest, σ, H, hv => by
    simp only [VD] at hv ⊢
    split at hv
    · split at hv
      · obtain ⟨r, H', h1, h2, h3⟩ := hv
        exact ⟨r, H', h1, h2, vd_mono h rest _ _ h3⟩
      · split at hv
        · exact ⟨hv.1, vd_mono h rest _ _ hv.2⟩
        · exact hv.elim
    · exact vd_mono h rest _ _ hv
    · exact hv.elim
theorem vc_mono : ∀ {c : Code} {σ : Slots} {H : Heap} {Q Q' : Post}, (∀ e σ H, Q e σ H → Q' e σ H) → VC P te c σ H Q → VC P te c σ H Q' := by
  intro c
  induction c with
  | skip => intro σ H Q Q' h hv; exact h _ _ _ hv
  | label l => intro σ H Q Q' h hv; exact h _ _ _ hv
  | exit id => intro σ H Q Q' h hv; exact h _ _ _ hv
  | ret => intro σ H Q Q' h hv; exact h _ _ _ hv
  | region id ops d =>
    intro σ H Q Q' h hv
    cases d with
    | false => exact vops_mono (h _) _ _ _ hv
    | true => exact ⟨hv.1, vd_mono (h _) _ _ _ hv.2⟩
  | seq x y ihx ihy =>
    intro σ H Q Q' h hv
    refine ihx (fun e σ H he => ?_) hv
    cases e with
    | normal => obtain ⟨σ1, H1, hw, h1⟩ := he; exact ⟨σ1, H1, hw, ihy h h1⟩
    | _ => exact h _ _ _ he
  | cond c x y ihx ihy =>
    intro σ H Q Q' h hv
    simp only [VC] at hv ⊢
    split at hv
    · rename_i b _
      cases b
      · simp only [Bool.false_eq_true, if_false] at hv ⊢; exact ihy h hv
      · simp only [if_true] at hv ⊢; exact ihx h hv
    · exact hv.elim
  | block id c ih =>
    intro σ H Q Q' h hv
    refine ih (fun e σ H he => ?_) hv
    cases e with
    | exit i =>
      simp only [PBlock] at he ⊢
      split
      · rename_i e; rw [if_pos e] at he; exact h _ _ _ he
      · rename_i e; rw [if_neg e] at he; exact h _ _ _ he
    | _ => exact h _ _ _ he
  | loop c ih =>
    intro σ H Q Q' h hv
    obtain ⟨J, k, h0, hr⟩ := hv
    refine ⟨J, k, h0, fun k σ H hj => ih (fun e σ H he => ?_) (hr k σ H hj)⟩
    cases e with
    | normal => exact he
    | _ => exact h _ _ _ he
  | _ => intro σ H Q Q' h hv; exact hv.elim
/-- append, in a region of the text's order -/
theorem vx_append {α : Type} {f : α → List SV} {all : Array Oper} {d : Option Tmp} {rest : List Oper} {K : Slots → Heap → Prop} {x0 x1 : Operand} {H0 : Heap} {sz e st xt : Nat} {y : SV} {l new : List α} {ti : TI} {a1 a2 b1 b2 e' : Nat} {a3 b3 : List Value} {a4 b4 : Bool}
    (hst : te st = some ⟨a1, a2, .sli e, a3, a4⟩) (hxt : te xt = some ⟨b1, b2, .sli e', b3, b4⟩) (hti : te e = some ti) (hsz : ti.size = sz) (hsz0 : Nat.beq sz 0 = false) (hb0 : Nat.beq ti.bytes 0 = false) (hf : ∀ a, (f a).length = sz)
    (hx : HExt H0 H) (hg : IsG f sz H0.n H y l) (hy : ev σ x0 = .s y) (hsrc : asrc te H e xt (ev σ x1) = some (new.length, FL f new)) (hcap : (l.length + new.length) * ti.bytes ≤ 70368744177664)
    (h : ∀ y' H', IsG f sz H0.n H' y' (l ++ new) → HExt H0 H' → Keep y H y' H' → VOps P te all rest (Upd σ d (.s y')) H' K) :
    VX P te all (.call { callee := .builtin .append, args := #[x0, x1], argTypes := #[st, xt] }) d rest σ H K := by
  have hsz0' : sz ≠ 0 := fun e => by rw [e] at hsz0; cases hsz0
  have hb0' : ti.bytes ≠ 0 := fun e => by rw [e] at hb0; cases hb0
  obtain ⟨y', H', h1, h2, h3, h4, h5⟩ := aappend_G hst hxt hti hsz hsz0' hb0' hg (FL_len hf l) hsrc (FL_len hf new) hx.1 hcap
  refine vx_op' rfl fun k hk => ?_
  have e : aop te σ H (.call { callee := .builtin .append, args := #[x0, x1], argTypes := #[st, xt] }) = some (.s y', H') := by
    simp only [aop, List.map_cons, List.map_nil, abuiltin, hy]; exact h1
  rw [e, bA_some]
  have hx' : HExt H0 H' := ⟨Nat.le_trans hx.1 h3, fun b hb => (h4 b (Nat.lt_of_lt_of_le hb hx.1) fun m e => by
    have hgl : IsGc H0.n H sz (.sl b 0 m true) l.length (FL f l) := by rw [← e]; exact hg
    have := hgl.lt; omega).trans (hx.2 b hb)⟩
  exact hk _ _ (h y' H' (by rw [IsG, List.length_append, FL_app]; exact h2) hx' ⟨h3, h4, h5⟩)
/-- a call of a function value -/
theorem vx_callf {all : Array Oper} {d : Option Tmp} {t : Nat} {f : FuncId} {caps : List (Nat × Nat)} {args : List Operand} {ts : Array TypeId} {rest : List Oper} {K : Slots → Heap → Prop} {cs : List Cmp}
    (hf : σ t = .s (.fn f caps)) (hc : cmps (args.map (ev σ)) = some cs) (h : CallV P f (cs ++ caps.map fun p => .s (.ptr p.1 p.2)) H fun r H' => VOps P te all rest (Upd σ d r) H' K) : VX P te all (.call { callee := .value (.tmp t), args := args.toArray, argTypes := ts }) d rest σ H K := by
  have : callOf σ (.call { callee := .value (.tmp t), args := args.toArray, argTypes := ts }) = some (f, cs ++ caps.map fun p => .s (.ptr p.1 p.2)) := by simp [callOf, ev, hf, hc]
  unfold VX
  rw [this]; exact h
/-- a loop of so many rounds at most -/
theorem vc_range {c : Code} (n : Nat) (J : Nat → Slots → Heap → Prop) (h0 : J 0 σ H) (hr : ∀ i σ H, i ≤ n → J i σ H → VC P te c σ H (PThen (fun σ' H' => i < n ∧ J (i + 1) σ' H') Q)) : VC P te (.loop c) σ H Q := by
  refine vc_loop' ⟨fun k σ' H' => ∃ i, k = n - i ∧ i ≤ n ∧ J i σ' H', n, ⟨0, by omega, by omega, h0⟩, ?_⟩
  rintro k σ' H' ⟨i, rfl, hi, hj⟩
  have := hr i σ' H' hi hj
  refine vc_mono ?_ this
  intro e σ1 H1 h
  cases e with
  | normal =>
    obtain ⟨h1, h2⟩ := h
    exact ⟨n - (i + 1), by omega, i + 1, rfl, by omega, h2⟩
  | _ => exact h
/-- a slot's list is written no more -/
theorem weak_frz {t : Nat} {x y : SV} {H1 : Heap} (hx : σ t = .s x) (h : Frz 0 H x y H1) : Weak σ H (Upd σ (some t) (.s y)) H1 := by
  intro B N ds ρ a w ⟨hr, hs, h3, h4⟩
  by_cases ht : t < a.tmps.size
  · have hv := hs t ht
    rw [hx] at hv
    obtain ⟨ρ', g1, g2, ⟨g3, _⟩, _⟩ := frz_ok hr hv h
    refine ⟨ρ', g2, g1, fun i hi => ?_, h3, h4⟩
    simp only [Upd]
    by_cases e : i = t
    · subst e; simp only [if_true]; exact g3
    · simp only [e, if_false]; exact (hs i hi).mono g2.le
  · have hsl : SlotsR ρ (Upd σ (some t) (.s y)) a.tmps := fun i hi => by
      simp only [Upd]
      rw [if_neg (by omega)]; exact hs i hi
    rcases h with ⟨_, _, rfl⟩ | ⟨_, _, rfl⟩ | ⟨b, off, k, gr, blk, m, _, _, _, _, _, _, rfl⟩
    · exact ⟨ρ, Step.refl _ _ _, hr, hsl, h3, h4⟩
    · exact ⟨ρ, Step.refl _ _ _, hr, hsl, h3, h4⟩
    · have hm : ∀ b' x, (H.set b none).m b' = some x → H.m b' = some x := fun b' x hh => by
        by_cases e : b' = b
        · subst e; rw [Heap.set_same] at hh; cases hh
        · rw [Heap.set_ne _ _ _ e] at hh; exact hh
      have ho : ∀ k, Own ρ (H.set b none) k → Own ρ H k := by
        rintro k ⟨b', co, cc, x, g1, g2, g3⟩; exact ⟨b', co, cc, x, g1, hm _ _ g2, g3⟩
      exact ⟨ρ, ⟨rfl, rfl, rfl, Nat.le_refl _, fun _ _ _ => rfl, fun k hk => .inl (ho k hk), Le.refl _, fun b cb co cc h h' => (by rw [h] at h'; cases h'), Nat.le_refl _, fun _ _ h => h, fun _ _ _ h => .inl h⟩,
        ⟨⟨hr.hB, hr.fresh, fun b' x hh => hr.live b' x (hm _ _ hh), fun b' cb co cc x g1 g2 => hr.blk b' cb co cc x g1 (hm _ _ g2), fun b1 b2 k co1 cc1 co2 cc2 x1 x2 hne g1 g2 g3 g4 => hr.sep b1 b2 k co1 cc1 co2 cc2 x1 x2 hne g1 g2 (hm _ _ g3) (hm _ _ g4)⟩, fun cb j v hv => ⟨(hr.imm cb j v hv).1, fun h => (hr.imm cb j v hv).2 (ho _ h)⟩⟩, hsl, h3, h4⟩
end
/-- what was made is handed back, and written no more -/
theorem acalls_of_G {P : Program} {α : Type} {f : α → List SV} {sz : Nat} (hp : ∀ a, (f a).all pers = true) {fn : FuncId} {args : List Cmp} {H : Heap} {l : List α} (h : ACallsR P fn args H fun r H' => ∃ y, r = .s y ∧ IsG f sz H.n H' y l ∧ HExt H H') : ACalls P fn args H (.s (LV f l)) H := by
  refine acalls_gc ⟨h.1, fun B ρ w cargs h1 h2 => (h.2 B ρ w cargs h1 h2).mono ?_⟩
  rintro e w' ⟨rv, ρ', r1, H1, g1, g2, g3, g4, y, rfl, hg, hx⟩
  obtain ⟨H2, hf, _⟩ := hg.frz (FL_pers hp l)
  exact ⟨rv, ρ', _, H1, g1, g2, g3, g4, hx, H2, hf⟩
theorem acalls_of_G2 {P : Program} {α : Type} {f : α → List SV} {sz : Nat} (hp : ∀ a, (f a).all pers = true) {fn : FuncId} {args : List Cmp} {H : Heap} {l m : List α} (h : ACallsR P fn args H fun r H' => ∃ y z, r = .tup [.s y, .s z] ∧ IsG f sz H.n H' y l ∧ IsG f sz H.n H' z m ∧ Sep y z ∧ HExt H H') : ACalls P fn args H (.tup [.s (LV f l), .s (LV f m)]) H := by
  refine acalls_gc ⟨h.1, fun B ρ w cargs h1 h2 => (h.2 B ρ w cargs h1 h2).mono ?_⟩
  rintro e w' ⟨rv, ρ', r1, H1, g1, g2, g3, g4, y, z, rfl, hg, hg', hs, hx⟩
  obtain ⟨H2, hf, hn, hk⟩ := hg.frz (FL_pers hp l)
  have hg2 : IsG f sz H.n H2 z m := hg'.keep (by rw [hn]; exact Nat.le_refl _) fun b hb _ he => hk b hb fun k hy => hs b k _ hy he
  obtain ⟨H3, hf3, _⟩ := hg2.frz (FL_pers hp m)
  exact ⟨rv, ρ', _, H1, g1, g2, g3, g4, hx, H3, H2, hf, H3, hf3, rfl⟩

theorem wrap_id {n : Int} (h1 : -9223372036854775808 ≤ n) (h2 : n < 9223372036854775808) : IntKind.i64.wrap n = n := by rw [IntKind.wrap_i64]; omega
theorem wrap_succ {n : Nat} (h : n < 1000000000000) : IntKind.i64.wrap ((n : Int) + 1) = ((n + 1 : Nat) : Int) := by rw [wrap_id] <;> omega
theorem wrap_pred {n : Nat} (h : n < 1000000000000) (h0 : 0 < n) : IntKind.i64.wrap ((n : Int) - 1) = ((n - 1 : Nat) : Int) := by rw [wrap_id] <;> omega
theorem ilt {i n : Nat} (h : i < n) : ((i : Int) < (n : Int)) = True := by simp; omega
theorem ige {i n : Nat} (h : ¬ i < n) : ((i : Int) < (n : Int)) = False := by simp; omega
theorem ipos {i : Nat} (h : 0 < i) : ((i : Int) > 0) = True := by simp; omega
theorem inpos {i : Nat} (h : ¬ 0 < i) : ((i : Int) > 0) = False := by simp; omega
theorem nlt {b n : Nat} (h : b < n) (k : Nat) : (b = n + k) = False := by simp; omega
theorem nlt0 {b n : Nat} (h : b < n) : (b = n) = False := by simp; omega
theorem drop_at {α : Type} {l : List α} {i : Nat} {a : α} (h : l[i]? = some a) : l.drop i = a :: l.drop (i + 1) := by
  have hi : i < l.length := (List.getElem?_eq_some_iff.1 h).1
  rw [List.drop_eq_getElem_cons hi]; rw [List.getElem?_eq_getElem hi] at h; injection h with h; rw [h]
attribute [go_sem] Int.toNat_natCast Int.natCast_nonneg Int.natCast_zero aappend aappendX aappendZ asrc Option.getD_some Option.getD_none Option.isSome_some Option.isSome_none
end Go.Abs
