/- Less, Runs, Once: in plain lists. -/
import Derived.Test.YtkfolfkgjpcmiaaF
namespace Go.Proofs.Ytkfolfkgjpcmiaa
open Go.RowKit

/-- is it the same to none of them? -/
def okIn (gone : List Int) (a : Int) : Bool := gone.all fun g => decide (key g ≠ key a)
def lessOf (gone xs : List Int) : List Int := xs.filter (okIn gone)

theorem lessOf_succ {gone xs : List Int} {j : Nat} {a : Int} (h : xs[j]? = some a) : lessOf gone (xs.take (j + 1)) = lessOf gone (xs.take j) ++ (if okIn gone a = true then [a] else []) := by
  unfold lessOf
  rw [List.take_add_one, h, List.filter_append]
  congr 1
  simp only [Option.toList_some]
  rw [List.filter_cons]
  split <;> simp

theorem lessOf_len (gone xs : List Int) (j : Nat) (h : j ≤ xs.length) : (lessOf gone (xs.take j)).length ≤ j := by
  have := List.length_filter_le (okIn gone) (xs.take j)
  rw [List.length_take] at this
  unfold lessOf
  omega

/-- Those ahead of k stand ahead of all that is left. -/
def Skipped (gone xs : List Int) (j k : Nat) : Prop := ∀ i g j' a, i < k → gone[i]? = some g → j ≤ j' → xs[j']? = some a → key g < key a

theorem Skipped.zero (gone xs : List Int) (j : Nat) : Skipped gone xs j 0 := fun i _ _ _ h => absurd h (Nat.not_lt_zero _)
theorem Skipped.later {gone xs : List Int} {j j2 k : Nat} (h : Skipped gone xs j k) (hj : j ≤ j2) : Skipped gone xs j2 k := fun i g j' a h1 h2 h3 h4 => h i g j' a h1 h2 (Nat.le_trans hj h3) h4

theorem Sorted.at {xs : List Int} (h : Sorted key xs) {i j : Nat} {a b : Int} (hij : i ≤ j) (ha : xs[i]? = some a) (hb : xs[j]? = some b) : key a ≤ key b := by
  by_cases e : i = j
  · subst e; rw [ha] at hb; cases hb; exact Int.le_refl _
  · have hi := (List.getElem?_eq_some_iff.1 ha).1
    have hj := (List.getElem?_eq_some_iff.1 hb).1
    have := List.pairwise_iff_getElem.1 h i j hi hj (by omega)
    rw [(List.getElem?_eq_some_iff.1 ha).2, (List.getElem?_eq_some_iff.1 hb).2] at this
    exact this

theorem Skipped.next {gone xs : List Int} {j k : Nat} (h : Skipped gone xs j k) (hs : Sorted key xs) {g a : Int} (hg : gone[k]? = some g) (ha : xs[j]? = some a) (hlt : key g < key a) : Skipped gone xs j (k + 1) := by
  intro i g' j' a' h1 h2 h3 h4
  by_cases e : i = k
  · subst e
    rw [hg] at h2
    cases h2
    have := hs.at h3 ha h4
    omega
  · exact h i g' j' a' (by omega) h2 h3 h4

theorem ok_of_end {gone xs : List Int} {j : Nat} (h : Skipped gone xs j gone.length) {a : Int} (ha : xs[j]? = some a) : okIn gone a = true := by
  unfold okIn
  refine List.all_eq_true.2 fun g hg => decide_eq_true ?_
  obtain ⟨i, hi⟩ := List.getElem?_of_mem hg
  have := h i g j a (List.getElem?_eq_some_iff.1 hi).1 hi (Nat.le_refl _) ha
  omega

theorem ok_of_gt {gone xs : List Int} {j k : Nat} (h : Skipped gone xs j k) (hs : Sorted key gone) {g a : Int} (hg : gone[k]? = some g) (ha : xs[j]? = some a) (hgt : key a < key g) : okIn gone a = true := by
  unfold okIn
  refine List.all_eq_true.2 fun g' hg' => decide_eq_true ?_
  obtain ⟨i, hi⟩ := List.getElem?_of_mem hg'
  by_cases hik : i < k
  · have := h i g' j a hik hi (Nat.le_refl _) ha
    omega
  · have := hs.at (Nat.not_lt.1 hik) hg hi
    omega

theorem bad_of_eq {gone : List Int} {k : Nat} {g a : Int} (hg : gone[k]? = some g) (he : key g = key a) : okIn gone a = false := by
  unfold okIn
  refine Bool.eq_false_iff.2 fun h => ?_
  have := of_decide_eq_true (List.all_eq_true.1 h g (List.mem_of_getElem? hg))
  exact this he

/-- the number that lies there -/
def nth (l : List Int) (i : Nat) : Int := (l[i]?).getD 0
theorem nth_of {l : List Int} {i : Nat} {a : Int} (h : l[i]? = some a) : nth l i = a := by unfold nth; rw [h]; rfl

/-- a piece begins there -/
def isHead (l : List Int) (i : Nat) : Bool := decide (i = 0 ∨ key (nth l (i - 1)) ≠ key (nth l i))
/-- the first of each piece -/
def heads (l : List Int) : Nat → List Int
  | 0 => []
  | i + 1 => heads l i ++ (if isHead l i = true then [nth l i] else [])

theorem heads_len (l : List Int) : ∀ i, (heads l i).length ≤ i
  | 0 => Nat.le_refl _
  | i + 1 => by
    have := heads_len l i
    simp only [heads]
    split <;> simp <;> omega

/-- from t on the list stands of a piece r -/
structure Piece (l : List Int) (t : Nat) (r : List Int) : Prop where
  pos : 0 < r.length
  le : t + r.length ≤ l.length
  eq : r = (l.drop t).take r.length
  head : isHead l t = true
  same : ∀ i, t < i → i < t + r.length → isHead l i = false
  stop : t + r.length = l.length ∨ isHead l (t + r.length) = true

theorem Piece.at {l : List Int} {t : Nat} {r : List Int} (h : Piece l t r) {i : Nat} (hi : i < r.length) : r[i]? = l[t + i]? := by
  have e := h.eq
  rw [e]
  rw [List.getElem?_take_of_lt hi, List.getElem?_drop]

theorem Piece.first {l : List Int} {t : Nat} {r : List Int} (h : Piece l t r) : r[0]? = some (nth l t) := by
  have hp := h.pos
  have hl := h.le
  rw [h.at hp, Nat.add_zero, List.getElem?_eq_getElem (by omega)]
  unfold nth
  rw [List.getElem?_eq_getElem (by omega)]
  rfl

theorem Piece.heads {l : List Int} {t : Nat} {r : List Int} (h : Piece l t r) : heads l (t + r.length) = heads l t ++ [nth l t] := by
  have key2 : ∀ d, d + 1 ≤ r.length → Ytkfolfkgjpcmiaa.heads l (t + (d + 1)) = Ytkfolfkgjpcmiaa.heads l t ++ [nth l t] := by
    intro d
    induction d with
    | zero =>
      intro _
      show Ytkfolfkgjpcmiaa.heads l t ++ _ = _
      rw [if_pos h.head]
    | succ d ih =>
      intro hd
      have := ih (by omega)
      show Ytkfolfkgjpcmiaa.heads l (t + (d + 1)) ++ (if isHead l (t + (d + 1)) = true then [nth l (t + (d + 1))] else []) = _
      rw [this, h.same (t + (d + 1)) (by omega) (by omega), if_neg (by simp), List.append_nil]
  have hp := h.pos
  obtain ⟨d, hd⟩ : ∃ d, r.length = d + 1 := ⟨r.length - 1, by omega⟩
  rw [hd]
  exact key2 d (by omega)

def total : List (List Int) → Nat
  | [] => 0
  | r :: rs => r.length + total rs
theorem total_append (a b : List (List Int)) : total (a ++ b) = total a + total b := by
  induction a with
  | nil => simp [total]
  | cons r a ih => simp only [List.cons_append, total, ih]; omega
theorem total_one (r : List Int) : total [r] = r.length := by simp [total]

end Go.Proofs.Ytkfolfkgjpcmiaa
