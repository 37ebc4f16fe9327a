/- The contracts, of lists wherever they lie; awake. -/
import Derived.Test.YtkfolfkgjpcmiaaH
import Derived.Test.YtkfolfkgjpcmiaaI
import Derived.Test.YtkfolfkgjpcmiaaK
namespace Go.Proofs.Ytkfolfkgjpcmiaa
open Go.RowKit

/-- v is that list. -/
def Lst (w : World) (v : Value) (xs : List Int) : Prop := ∃ p c, v = .slice p xs.length c ∧ View w p c xs
theorem Lst.upd {w w' : World} {v xs} (h : Lst w v xs) (u : Upd [] w w') : Lst w' v xs := by
  obtain ⟨p, c, rfl, hv⟩ := h
  exact ⟨p, c, rfl, hv.upd u⟩
theorem Own.lst {w : World} {B v xs} (h : Own w B v xs) : Lst w v xs := h.view
theorem View.lst {w : World} {p c xs} (h : View w p c xs) : Lst w (.slice p xs.length c) xs := ⟨p, c, rfl, h⟩

theorem lst_new (w : World) (xs : List Int) (n : Nat) (hn : xs.length = n) (hm : n ≤ 1048576) : Lst (w.alloc (.cells (ints xs).toArray 3)) (.slice (some ⟨w.heap.size, 0, none⟩) n n) xs := by
  subst hn
  refine ⟨_, _, rfl, Nat.le_refl _, by unfold maxLen; omega, (fun e => by cases e), fun i x hi => ⟨_, _, rfl, by simp, fun j y hj => ?_⟩⟩
  have r := IsRow.new w (ints xs) 3
  rw [Nat.zero_add, r.cell]
  exact ints_at hj

section
variable {w : World} {v u : Value} {xs ys : List Int}
theorem sort_l (hx : Lst w v xs) (hn : xs.length ≤ 1048576) : Calls Try.prog 10 #[v, .func (.func 11) #[] #[]] w fun e w' => (∃ r, e = .returned r ∧ Own w' w.heap.size r (sortK key xs)) ∧ Upd [] w w' := by
  obtain ⟨p, c, rfl, hv⟩ := hx
  exact sort_any p c xs w hv hn
theorem refsort_l (hx : Lst w v xs) (hn : xs.length ≤ 1048576) : Calls Try.prog 12 #[v] w fun e w' => (∃ r, e = .returned r ∧ Own w' w.heap.size r (sortK key xs)) ∧ Upd [] w w' := by
  obtain ⟨p, c, rfl, hv⟩ := hx
  exact refsort_any p c xs w hv hn
theorem equal_l (hx : Lst w v xs) (hy : Lst w u ys) (hn : xs.length ≤ 1048576) : Calls Try.prog 13 #[v, u] w fun e w' => e = .returned (.bool (eqL xs ys)) ∧ Upd [] w w' := by
  obtain ⟨p, c, rfl, hv⟩ := hx
  obtain ⟨q, d, rfl, hu⟩ := hy
  exact equal_any p q c d xs ys w hv hu hn
theorem sorted_l (hx : Lst w v xs) (hn : xs.length ≤ 1048576) : Calls Try.prog 14 #[v, .func (.func 11) #[] #[]] w fun e w' => e = .returned (.bool (sortedB xs)) ∧ Upd [] w w' := by
  obtain ⟨p, c, rfl, hv⟩ := hx
  exact sorted_any p c xs w hv hn
theorem merge_l (hx : Lst w v xs) (hy : Lst w u ys) (hn : xs.length + ys.length ≤ 1048576) : Calls Try.prog 15 #[v, u, .func (.func 11) #[] #[]] w fun e w' => (∃ r, e = .returned r ∧ Own w' w.heap.size r (mergeK key xs ys)) ∧ Upd [] w w' := by
  obtain ⟨p, c, rfl, hv⟩ := hx
  obtain ⟨q, d, rfl, hu⟩ := hy
  exact merge_any p q c d xs ys w hv hu hn
theorem once_l (hx : Lst w v xs) (hn : xs.length ≤ 1048576) : Calls Try.prog 18 #[v, .func (.func 11) #[] #[]] w fun e w' => (∃ r, e = .returned r ∧ Own w' w.heap.size r (heads (sortK key xs) xs.length)) ∧ Upd [] w w' := by
  obtain ⟨p, c, rfl, hv⟩ := hx
  exact once_any p c xs w hv hn
theorem refonce_l (hx : Lst w v xs) (hn : xs.length ≤ 1048576) : Calls Try.prog 19 #[v] w fun e w' => (∃ r, e = .returned r ∧ Own w' w.heap.size r (heads (sortK key xs) xs.length)) ∧ Upd [] w w' := by
  obtain ⟨p, c, rfl, hv⟩ := hx
  exact refonce_any p c xs w hv hn
theorem find_l (hx : Lst w v xs) (hn : xs.length ≤ 1048576) (hs : Sorted key xs) (k : Int) :
    Calls Try.prog 20 #[v, .int .i64 k, .func (.func 11) #[] #[]] w fun e w' => (∃ n : Nat, e = .returned (.tuple #[.int .i64 n, .bool (isAt xs k n)]) ∧ At xs k n) ∧ Upd [] w w' := by
  obtain ⟨p, c, rfl, hv⟩ := hx
  exact find_any p c xs k w hv hn hs
theorem less_l (hx : Lst w v xs) (hy : Lst w u ys) (hn : xs.length ≤ 1048576) (hm : ys.length ≤ 1048576) (hs : Sorted key xs) (hg : Sorted key ys) :
    Calls Try.prog 21 #[v, u, .func (.func 11) #[] #[]] w fun e w' => (∃ r, e = .returned r ∧ Own w' w.heap.size r (lessOf ys xs)) ∧ Upd [] w w' := by
  obtain ⟨p, c, rfl, hv⟩ := hx
  obtain ⟨q, d, rfl, hu⟩ := hy
  exact less_any p q c d xs ys w hv hu hn hm hs hg
end

theorem awake_find {n : Nat} (h : At [12, 31] 35 n) : n = 1 ∧ isAt [12, 31] 35 n = true := by
  have : n = 1 := h.unique (m := 1) ⟨by decide, fun i a hi ha => by
    match i, hi, ha with
    | 0, _, ha => simp at ha; subst ha; decide +kernel, fun i a hi ha => by
    match i, hi, ha with
    | 1, _, ha => simp at ha; subst ha; decide +kernel
    | i + 2, _, ha => simp at ha⟩
  subst this
  exact ⟨rfl, by decide +kernel⟩

set_option maxHeartbeats 1000000 in
theorem awake_any (w : World) : Calls Try.prog 9 #[] w fun e w' => e = .returned (.bool true) ∧ Upd [] w w' := by
  have s1 : sortK key [31, 12, 33, 14] = [12, 14, 31, 33] := by decide +kernel
  have s2 : heads (sortK key [31, 12, 33, 14]) 4 = [12, 31] := by decide +kernel
  have s3 : sortedB [31, 12, 33, 14] = false := by decide +kernel
  have s4 : Sorted key [12, 31] := by decide +kernel
  have S1 := Lib.hid s1
  have S2 := Lib.hid s2
  have S3 := Lib.hid s3
  clear s1 s2 s3
  go_enter Try.func9, Try.ntmps9
  go_wp2_with fail
  have l1 := lst_new w [31, 12, 33, 14] 4 rfl (by decide)
  have l2 := lst_new (w.alloc (.cells (ints [31, 12, 33, 14]).toArray 3)) [12, 31] 2 rfl (by decide)
  have U2 : Upd [] (w.alloc (.cells (ints [31, 12, 33, 14]).toArray 3)) ((w.alloc (.cells (ints [31, 12, 33, 14]).toArray 3)).alloc (.cells (ints [12, 31]).toArray 3)) := (Upd.refl [] _).alloc _
  have U1 : Upd [] w (w.alloc (.cells (ints [31, 12, 33, 14]).toArray 3)) := (Upd.refl [] _).alloc _
  have l3 := l1.upd U2
  have U3 := U1.trans U2
  simp only [World.size_alloc] at l2
  change Lst (w.alloc (.cells #[.int .i64 31, .int .i64 12, .int .i64 33, .int .i64 14] 3) |>.alloc (.cells #[.int .i64 12, .int .i64 31] 3)) _ _ at l2 l3
  change Upd [] w (w.alloc (.cells #[.int .i64 31, .int .i64 12, .int .i64 33, .int .i64 14] 3) |>.alloc (.cells #[.int .i64 12, .int .i64 31] 3)) at U3
  clear l1 U2 U1
  generalize (w.alloc (.cells #[.int .i64 31, .int .i64 12, .int .i64 33, .int .i64 14] 3)).alloc (.cells #[.int .i64 12, .int .i64 31] 3) = w1 at l2 l3 U3 ⊢
  refine (find_l l2 (by decide) s4 35).mono ?_
  rintro e w2 ⟨⟨n, rfl, hn⟩, U4⟩
  obtain ⟨hn1, hn2⟩ := awake_find hn
  rw [hn2]
  subst hn1
  have l4 := l3.upd U4
  have U5 := U3.trans U4
  clear hn hn2 l2 l3 U3 U4 s4
  go_wp2_with fail
  refine (sort_l l4 (by decide)).mono ?_
  rintro e w3 ⟨⟨r, rfl, ho⟩, U6⟩
  have l5 := l4.upd U6
  have U7 := U5.trans U6
  clear l4 U5 U6
  go_wp2_with fail
  have l6 := lst_new w3 [12, 14, 31, 33] 4 rfl (by decide)
  have U8 : Upd [] w3 (w3.alloc (.cells (ints [12, 14, 31, 33]).toArray 3)) := (Upd.refl [] _).alloc _
  have l7 := l5.upd U8
  have l8 := ho.lst.upd U8
  have U9 := U7.trans U8
  change Lst (w3.alloc (.cells #[.int .i64 12, .int .i64 14, .int .i64 31, .int .i64 33] 3)) _ _ at l6 l7 l8
  change Upd [] w (w3.alloc (.cells #[.int .i64 12, .int .i64 14, .int .i64 31, .int .i64 33] 3)) at U9
  clear l5 U7 U8 ho
  generalize w3.alloc (.cells #[.int .i64 12, .int .i64 14, .int .i64 31, .int .i64 33] 3) = w4 at l6 l7 l8 U9 ⊢
  refine (equal_l l8 l6 (by rw [sortK_len]; decide)).mono ?_
  rintro e w5 ⟨rfl, U10⟩
  rw [S1.out, show eqL [12, 14, 31, 33] [12, 14, 31, 33] = true from by decide +kernel]
  have l9 := l7.upd U10
  have U11 := U9.trans U10
  clear l6 l7 l8 U9 U10
  go_wp2_with fail
  refine (once_l l9 (by decide)).mono ?_
  rintro e w6 ⟨⟨r2, rfl, ho⟩, U12⟩
  have l10 := l9.upd U12
  have U13 := U11.trans U12
  clear l9 U11 U12
  go_wp2_with fail
  have l11 := lst_new w6 [12, 31] 2 rfl (by decide)
  have U14 : Upd [] w6 (w6.alloc (.cells (ints [12, 31]).toArray 3)) := (Upd.refl [] _).alloc _
  have l12 := l10.upd U14
  have l13 := ho.lst.upd U14
  have U15 := U13.trans U14
  change Lst (w6.alloc (.cells #[.int .i64 12, .int .i64 31] 3)) _ _ at l11 l12 l13
  change Upd [] w (w6.alloc (.cells #[.int .i64 12, .int .i64 31] 3)) at U15
  clear l10 U13 U14 ho
  generalize w6.alloc (.cells #[.int .i64 12, .int .i64 31] 3) = w7 at l11 l12 l13 U15 ⊢
  refine (equal_l l13 l11 (by rw [show ([31, 12, 33, 14] : List Int).length = 4 from rfl, S2.out]; decide)).mono ?_
  rintro e w8 ⟨rfl, U16⟩
  rw [show ([31, 12, 33, 14] : List Int).length = 4 from rfl, S2.out, show eqL [12, 31] [12, 31] = true from by decide +kernel]
  have l14 := l12.upd U16
  have U17 := U15.trans U16
  clear l11 l12 l13 U15 U16
  go_wp2_with fail
  refine (sorted_l l14 (by decide)).mono ?_
  rintro e w9 ⟨rfl, U18⟩
  rw [S3.out]
  have U19 := U17.trans U18
  clear l14 U17 U18
  go_wp2_with fail
  go_ret
  exact ⟨rfl, U19⟩

end Go.Proofs.Ytkfolfkgjpcmiaa
