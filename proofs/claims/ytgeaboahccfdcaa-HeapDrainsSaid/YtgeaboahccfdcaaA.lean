/- The order; before; swap. -/
import Derived.Test.YtgeaboahccfdcaaV
import Derived.Test.YtgeaboahccfdcaaMath
namespace Go.Proofs.Ytgeaboahccfdcaa
open Go.RowKit

/-- what cmp.Compare answers -/
def cmpI (a b : Int) : Int := if a < b then -1 else if b < a then 1 else 0

theorem isnan_any (a : Int) (w : World) : Calls Try.prog 23 #[.int .i64 a] w fun e w' => e = .returned (.bool false) ∧ w' = w := by
  go_enter Try.func23, Try.ntmps23
  go_wp2
  go_ret
  exact ⟨ret_bool (by simp), rfl⟩

theorem compare_any (a b : Int) (w : World) : Calls Try.prog 9 #[.int .i64 a, .int .i64 b] w fun e w' => e = .returned (.int .i64 (cmpI a b)) ∧ w' = w := by
  by_cases h1 : a < b
  · go_enter Try.func9, Try.ntmps9
    go_wp2_with (go_at_call 23; refine (isnan_any _ _).mono ?_; rintro e w' ⟨rfl, rfl⟩)
    go_ret
    exact ⟨ret_int (by unfold cmpI; rw [if_pos h1]), rfl⟩
  · by_cases h2 : b < a
    · go_enter Try.func9, Try.ntmps9
      go_wp2_with (go_at_call 23; refine (isnan_any _ _).mono ?_; rintro e w' ⟨rfl, rfl⟩)
      go_ret
      exact ⟨ret_int (by unfold cmpI; rw [if_neg (by omega), if_pos h2]), rfl⟩
    · go_enter Try.func9, Try.ntmps9
      go_wp2_with (go_at_call 23; refine (isnan_any _ _).mono ?_; rintro e w' ⟨rfl, rfl⟩)
      go_ret
      exact ⟨ret_int (by unfold cmpI; rw [if_neg (by omega), if_neg (by omega)]), rfl⟩

theorem turned_any (a b : Int) (w : World) : Calls Try.prog 19 #[.int .i64 a, .int .i64 b] w fun e w' => e = .returned (.int .i64 (cmpI b a)) ∧ w' = w := by
  go_enter Try.func19, Try.ntmps19
  go_wp2_with (go_at_call 9; refine (compare_any _ _ _).mono ?_; rintro e w' ⟨rfl, rfl⟩)
  go_ret
  exact ⟨rfl, rfl⟩

/-- the order's value -/
def ordV (t : Bool) : Value := .func (.func (if t then 19 else 9)) #[] #[]
/-- does a stand ahead of b? -/
def bef (t : Bool) (a b : Int) : Bool := decide (kd t a < kd t b)

/-- A heap lies there: its block, the block of its list (if there is one). -/
structure HeapAt (w : World) (t : Bool) (h : Nat) (v : Value) (xs : List Int) : Prop where
  row : IsRow w h 48 [ordV t, v]
  own : Own w 0 v xs
  ne : v.ownBlock ≠ some h
  len : xs.length ≤ 1000000

/-- the blocks that a heap's calls may turn -/
def bk (h : Nat) (v : Value) : List Nat := h :: v.ownBlock.toList

theorem HeapAt.upd {w w' : World} {t h v xs S} (H : HeapAt w t h v xs) (u : Upd S w w') (hn : ∀ z, z ∈ bk h v → z ∉ S) : HeapAt w' t h v xs :=
  ⟨H.row.upd u (hn h (by simp [bk])), H.own.keptNB u (fun z hz => hn z (by simp [bk, hz])), H.ne, H.len⟩

theorem HeapAt.c0 {w : World} {t h v xs} (H : HeapAt w t h v xs) : w.cell? ⟨h, 0, none⟩ = some (ordV t) := H.row.cell 0
theorem HeapAt.c1 {w : World} {t h v xs} (H : HeapAt w t h v xs) : w.cell? ⟨h, 1, none⟩ = some v := H.row.cell 1

theorem Own.spot {w : World} {B : Nat} {v : Value} {x : List Int} (h : Own w B v x) (hx : 0 < x.length) : ∃ g cap, v = .slice (some ⟨g, 0, none⟩) x.length cap ∧ x.length ≤ cap ∧ g < w.heap.size ∧ (∀ i a, x[i]? = some a → w.cell? ⟨g, i, none⟩ = some (.int .i64 a)) ∧ ∀ i, w.frozen? ⟨g, i, none⟩ = false := by
  obtain ⟨g, cap, rfl, _⟩ := h.first hx
  have hl := World.ownsRow.lt h g rfl
  obtain ⟨hle, hv⟩ := h.view'
  refine ⟨g, cap, rfl, hv.le, hl.2, fun i a hi => ?_, fun i => h.free i⟩
  have hil := (List.getElem?_eq_some_iff.1 hi).1
  rw [World.ownsRow.cellAt h i (by omega), ints_at hi]

set_option maxHeartbeats 1000000 in
theorem before_any (t : Bool) (h : Nat) (v : Value) (xs : List Int) (i k : Nat) (w : World) (H : HeapAt w t h v xs) (hi : i < xs.length) (hk : k < xs.length) :
    Calls Try.prog 24 #[.pointer (some ⟨h, 0, none⟩), .int .i64 i, .int .i64 k] w fun e w' => e = .returned (.bool (bef t (nth xs i) (nth xs k))) ∧ Upd [] w w' := by
  have c0 := H.c0
  have c1 := H.c1
  have hlen := H.len
  obtain ⟨g, cap, rfl, hcap, hg, hcell, _⟩ := H.own.spot (by omega)
  have ci := hcell i _ (nth_get hi)
  have ck := hcell k _ (nth_get hk)
  generalize nth xs i = a at ci ⊢
  generalize nth xs k = b at ck ⊢
  clear hcell H
  cases t with
  | false =>
    have e : decide (cmpI a b < 0) = bef false a b := by
      unfold bef kd cmpI
      simp only [Bool.false_eq_true, if_false]
      split
      · rename_i h1; simp [h1]
      · rename_i h1; rw [decide_eq_false h1]; split <;> rfl
    rw [← e]
    have c0' : w.cell? ⟨h, 0, none⟩ = some (.func (.func 9) #[] #[]) := c0
    clear c0 e
    go_enter Try.func24, Try.ntmps24
    go_wp2_with fail
    go_quiet ((go_at_call 9; first | exact Calls.quiet_of_same (compare_any _ _ _)))
    go_wp2_with fail
    go_ret
    exact ⟨rfl, (Upd.refl [] w).drewN _⟩
  | true =>
    have e : decide (cmpI b a < 0) = bef true a b := by
      unfold bef kd cmpI
      simp only [if_true]
      split
      · rename_i h1; rw [decide_eq_true (by omega : -a < -b)]; rfl
      · rename_i h1; rw [decide_eq_false (by omega : ¬ -a < -b)]; split <;> rfl
    rw [← e]
    have c0' : w.cell? ⟨h, 0, none⟩ = some (.func (.func 19) #[] #[]) := c0
    clear c0 e
    go_enter Try.func24, Try.ntmps24
    go_wp2_with fail
    go_quiet ((go_at_call 19; first | exact Calls.quiet_of_same (turned_any _ _ _)))
    go_wp2_with fail
    go_ret
    exact ⟨rfl, (Upd.refl [] w).drewN _⟩

end Go.Proofs.Ytgeaboahccfdcaa
