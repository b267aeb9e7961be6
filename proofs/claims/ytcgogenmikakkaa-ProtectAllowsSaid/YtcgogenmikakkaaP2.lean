/-
  What the references compute: pages.
-/
import Derived.Test.YtcgogenmikakkaaP1
namespace Go.Abs
set_option linter.unusedVariables false
set_option linter.unusedSimpArgs false
open Go.RowKit

/-- a formed area, in plain words -/
theorem formed_iff (a : Ar) : formed a = true ↔ a.s % 4096 = 0 ∧ a.e % 4096 = 0 ∧ 65536 ≤ a.s ∧ a.e ≤ 2097152 ∧ a.s < a.e ∧ 0 ≤ a.p ∧ a.p ≤ 7 ∧ 0 ≤ a.b ∧ a.b ≤ 9 ∧ (a.b = 0 → a.o = 0) ∧ a.o % 4096 = 0 ∧ 0 ≤ a.o ∧ a.o ≤ 1099511627776 - (a.e - a.s) := by
  unfold formed
  simp only [tmod_zero]
  constructor
  · intro h
    split at h
    · rename_i hc
      obtain ⟨h1, h2, h3, h4, h5, h6, h7, h8, h9⟩ := hc
      have hw : IntKind.i64.wrap (1099511627776 - IntKind.i64.wrap (a.e - a.s)) = 1099511627776 - (a.e - a.s) := by
        rw [wrap_id (n := a.e - a.s) (by omega) (by omega), wrap_id (by omega) (by omega)]
      rw [wr, hw] at h
      split at h
      · rename_i hb
        have : a.o = 0 := by simpa using h
        refine ⟨h1, h2, h3, h4, h5, h6, h7, h8, h9, fun _ => this, ?_, ?_, ?_⟩ <;> omega
      · rename_i hb
        have : a.o % 4096 = 0 ∧ 0 ≤ a.o ∧ a.o ≤ 1099511627776 - (a.e - a.s) := by simpa using h
        exact ⟨h1, h2, h3, h4, h5, h6, h7, h8, h9, fun h => absurd h hb, this⟩
    · cases h
  · rintro ⟨h1, h2, h3, h4, h5, h6, h7, h8, h9, h10, h11, h12, h13⟩
    have hw : IntKind.i64.wrap (1099511627776 - IntKind.i64.wrap (a.e - a.s)) = 1099511627776 - (a.e - a.s) := by
      rw [wrap_id (n := a.e - a.s) (by omega) (by omega), wrap_id (by omega) (by omega)]
    rw [if_pos ⟨h1, h2, h3, h4, h5, h6, h7, h8, h9⟩, wr, hw]
    split
    · rename_i hb; simpa using h10 hb
    · simp; omega

def Pg.at (x : Pg) : At := ⟨x.p, x.sh, x.b, x.o⟩
def pgAt (t : At) : Pg := ⟨true, t.p, t.sh, t.b, t.o⟩
def pattr (a : Ar) (p : Nat) : At := ⟨a.p, a.sh, a.b, if a.b > 0 then a.o + (4096 * (p : Int) - a.s) else 0⟩
def plo (a : Ar) : Nat := (a.s / 4096).toNat
def phi (a : Ar) : Nat := (a.e / 4096).toNat
def upd (s : List Pg) (lo hi : Nat) (f : Nat → Pg → Pg) : List Pg := s.mapIdx fun p x => if lo ≤ p ∧ p < hi then f p x else x
def pz : List Pg := List.replicate 512 Pg.zero
def ofStep (s : List Pg) (a : Ar) : List Pg := upd s (plo a) (phi a) fun p _ => pgAt (pattr a p)
def ofS (l : List Ar) : List Pg := l.foldl ofStep pz
def madeStep (s : List Pg) (a : Ar) : List Pg := if formed a then ofStep s a else s
def madeP (l : List Ar) : List Pg := (l.take 40).foldl madeStep pz
def afterS (a b : At) : Bool := decide ((if a.b > 0 then { a with o := wr (a.o + 4096) } else a) = b)
def newAr (x : Pg) (p : Nat) : Ar := ⟨4096 * (p : Int), 4096 * ((p + 1 : Nat) : Int), x.p, x.sh, x.b, x.o⟩
def pgD (s : List Pg) (p : Nat) : Pg := s.getD p Pg.zero
def listStep (s : List Pg) (out : List Ar) (p : Nat) : List Ar :=
  if (pgD s p).i then
    match out.getLast? with
    | none => [newAr (pgD s p) p]
    | some z => if z.e == 4096 * (p : Int) && afterS (pgD s (p - 1)).at (pgD s p).at then out.dropLast ++ [{ z with e := 4096 * ((p + 1 : Nat) : Int) }] else out ++ [newAr (pgD s p) p]
  else out
def listS (s : List Pg) : List Ar := (List.range' 16 496).foldl (listStep s) []
def madeS (l : List Ar) : List Ar := listS (madeP l)
def someS (l : List Ar) : List Ar := (madeS l).take 24

theorem upd_len (s : List Pg) (lo hi : Nat) (f : Nat → Pg → Pg) : (upd s lo hi f).length = s.length := by simp [upd]
theorem upd_get (s : List Pg) (lo hi : Nat) (f : Nat → Pg → Pg) (p : Nat) : (upd s lo hi f)[p]? = (s[p]?).map fun x => if lo ≤ p ∧ p < hi then f p x else x := by simp [upd, List.getElem?_mapIdx]
theorem upd_zero (s : List Pg) (lo : Nat) (f : Nat → Pg → Pg) : upd s lo lo f = s := by
  apply List.ext_getElem?
  intro p
  rw [upd_get]
  have : ¬ (lo ≤ p ∧ p < lo) := by omega
  simp [this]
theorem upd_succ {s : List Pg} {lo hi : Nat} {f : Nat → Pg → Pg} {x : Pg} (h : lo ≤ hi) (hx : s[hi]? = some x) : (upd s lo hi f).set hi (f hi x) = upd s lo (hi + 1) f := by
  apply List.ext_getElem?
  intro p
  rw [upd_get, List.getElem?_set, upd_get]
  by_cases e : hi = p
  · subst e
    have hl : hi < (upd s lo hi f).length := by rw [upd_len]; exact (List.getElem?_eq_some_iff.1 hx).1
    rw [if_pos rfl, if_pos hl, hx]
    simp [h]
  · rw [if_neg e]
    congr 1
    funext y
    by_cases hc : lo ≤ p ∧ p < hi
    · rw [if_pos hc, if_pos (by omega)]
    · rw [if_neg hc, if_neg (by omega)]
theorem upd_at (s : List Pg) (lo hi : Nat) (f : Nat → Pg → Pg) {x : Pg} (hx : s[hi]? = some x) : (upd s lo hi f)[hi]? = some x := by
  rw [upd_get, hx]; simp
theorem ofStep_len (s : List Pg) (a : Ar) : (ofStep s a).length = s.length := upd_len _ _ _ _
theorem of_len : ∀ (l : List Ar) (s : List Pg), (l.foldl ofStep s).length = s.length
  | [], _ => rfl
  | a :: l, s => by rw [List.foldl_cons, of_len l, ofStep_len]
theorem pz_len : pz.length = 512 := List.length_replicate
theorem ofS_len (l : List Ar) : (ofS l).length = 512 := by rw [ofS, of_len, pz_len]
theorem madeStep_len (s : List Pg) (a : Ar) : (madeStep s a).length = s.length := by
  unfold madeStep; split
  · exact ofStep_len _ _
  · rfl
theorem made_len : ∀ (l : List Ar) (s : List Pg), (l.foldl madeStep s).length = s.length
  | [], _ => rfl
  | a :: l, s => by rw [List.foldl_cons, made_len l, madeStep_len]
theorem madeP_len (l : List Ar) : (madeP l).length = 512 := by rw [madeP, made_len, pz_len]
theorem fold_take {α β : Type} {f : β → α → β} {l : List α} {i : Nat} {a : α} (ha : l[i]? = some a) (b : β) : (l.take (i + 1)).foldl f b = f ((l.take i).foldl f b) a := by
  rw [List.take_add_one, ha]; simp
theorem formed_pages {a : Ar} (h : formed a = true) : 16 ≤ plo a ∧ plo a < phi a ∧ phi a ≤ 512 ∧ a.s = 4096 * (plo a : Int) ∧ a.e = 4096 * (phi a : Int) := by
  obtain ⟨h1, h2, h3, h4, h5, _⟩ := (formed_iff a).1 h
  unfold plo phi
  omega

theorem setAll_full {cs xs : List SV} (h : xs.length = cs.length) : setAll cs 0 xs = xs := by
  have := setAll_mid xs cs [] [] h.symm
  simpa using this
theorem FL_rep {α : Type} (f : α → List SV) (n : Nat) (a : α) : FL f (List.replicate n a) = (List.replicate n (f a)).flatten := by
  rw [FL, List.flatMap_def, List.map_replicate]
end Go.Abs
