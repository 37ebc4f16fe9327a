/- Clone, Merge of points. -/
import Derived.Test.YtpoogkgekeocbaaMath
namespace Go.Proofs.Ytpoogkgekeocbaa
open Go.RowKit

theorem clone_any (p : Option Addr) (cap : Nat) (xs : List Pt) (w : World) (h : View w p cap xs) (hn : xs.length ≤ 1048576) :
    Calls Try.prog 43 #[.slice p xs.length cap] w fun e w' => (∃ v, e = .returned v ∧ Own 24 w' w.heap.size v xs) ∧ Upd [] w w' := by
  have he := Lib.run_eql_slice_nil (P := Try.prog) w 22 24 p xs.length cap 0 0 Try.underlying22
  cases p with
  | none =>
    have hc := h.nil rfl
    have hl : xs.length = 0 := by have := h.le; omega
    have hx : xs = [] := List.eq_nil_of_length_eq_zero hl
    subst hx hc
    have he2 : (binOp .eql 22 (.slice none 0 0) (.slice none 0 0)).run Try.prog w = .ok (.bool true) w := he
    clear hl he
    show Calls Try.prog 43 #[.slice none 0 0] w _
    go_enter Try.func43, Try.ntmps43
    go_wp2_with fail
    go_ret
    exact ⟨⟨_, rfl, Own.nil _ _⟩, Upd.refl _ _⟩
  | some ad =>
    have ho : Own 24 (w.alloc (.cells #[] 24)) w.heap.size (.slice (some ⟨w.heap.size, 0, none⟩) 0 0) ([] : List Pt) := World.ownsRow_made w #[] 0 (Nat.le_refl _) (by unfold maxLen; omega) rfl
    have hv := h.upd ((Upd.refl [] w).alloc (.cells #[] 24))
    go_enter Try.func43, Try.ntmps43
    go_wp2_with (at_builtin; refine wpList_append_view ty22 rfl _ _ rfl w.heap.size _ [] xs (some ad) cap rfl rfl ho hv (by simp) (by simpa using hn) ?_)
    intro v' w1 hown hgr
    have hu := own_grown ho hgr ((Upd.refl [] w).alloc _) (Nat.le_refl _)
    clear hgr ho hv
    go_wp2
    go_ret
    exact ⟨⟨_, rfl, hown⟩, hu⟩

set_option maxHeartbeats 1000000 in
theorem merge_false (p q : Option Addr) (c d : Nat) (xs ys : List Pt) (w : World) (hx : View w p c xs) (hy : View w q d ys) (hn : xs.length + ys.length ≤ 1048576) :
    Calls Try.prog 44 #[.slice p xs.length c, .slice q ys.length d, .func (.func 23) #[] #[]] w fun e w' => (∃ v, e = .returned v ∧ Own 24 w' w.heap.size v (mergeP false xs ys)) ∧ Upd [] w w' := by
  obtain ⟨i0, z0, hi, hz0, hz1, hz2, hz3⟩ := ty22.parts
  have HX := Lib.hid hx
  have HY := Lib.hid hy
  clear hx hy
  go_enter Try.func44, Try.ntmps44
  go_wp2_with (at_make; refine wpList_make_own _ rfl _ _ 22 rfl w.heap.size 24 i0 z0 2 Try.underlying22 hi hz0 hz1 _ _ _ (xs.length + ys.length) rfl rfl (by omega) (by rw [hz2]; omega) (by unfold maxLen; omega) (Nat.le_refl _) ?_)
  intro w1 hown hgr
  have U0 : Upd [] w w1 := (Upd.refl [] w).grown hgr (fun k hk => by cases hk)
  have HO : Own 24 w1 w.heap.size (.slice (some ⟨w.heap.size, 0, none⟩) 0 (xs.length + ys.length)) ([] : List Pt) := hown
  clear hown hgr hi hz0 hz1 hz2 hz3
  go_wp2_with fail
  go_loopw [0, 1, 7] (fun u0 u1 u7 wr => ∃ (a b dn : List Pt) (pa pb : Option Addr) (ca cb : Nat), u0 = .slice pa a.length ca ∧ u1 = .slice pb b.length cb ∧ View w pa ca a ∧ View w pb cb b ∧ Own 24 wr w.heap.size u7 dn ∧ dn ++ mergeP false a b = mergeP false xs ys ∧ dn.length + a.length + b.length = xs.length + ys.length ∧ Upd [] w wr) (fun u0 u1 _ _ => lenV u0 + lenV u1)
  case atStart => exact ⟨xs, ys, [], p, q, c, d, rfl, rfl, HX.out, HY.out, HO, rfl, by simp, U0⟩
  case round =>
    obtain ⟨a, b, dn, pa, pb, ca, cb, rfl, rfl, hva, hvb, hod, hmg, hlen, U1⟩ := hrel
    have HVA := Lib.hid hva
    have HVB := Lib.hid hvb
    have HD := Lib.hid hod
    have HM := Lib.hid hmg
    clear hva hvb hod hmg
    match a, b, HVA, HVB, HM, hlen with
    | [], b, HVA, HVB, HM, hlen =>
      go_wp2_with (at_builtin; refine wpList_append_view ty22 rfl _ _ rfl w.heap.size _ dn [] pa ca rfl rfl HD.out (HVA.out.upd U1) U1.size (by simp at hlen ⊢; omega) ?_)
      intro v2 w2 ho2 hg2
      have U2 := own_grown HD.out hg2 U1 (Nat.le_refl _)
      clear hg2
      go_wp2_with (at_builtin; refine wpList_append_view ty22 rfl _ _ rfl w.heap.size _ _ b pb cb rfl rfl ho2 (HVB.out.upd U2) U2.size (by simp at hlen ⊢; omega) ?_)
      intro v3 w3 ho3 hg3
      have U3 := own_grown ho2 hg3 U2 (Nat.le_refl _)
      clear hg3
      go_wp2
      go_ret
      refine ⟨⟨_, rfl, ?_⟩, U3⟩
      rw [← HM.out, show mergeP false [] b = b from by simp [mergeP]]
      simpa using ho3
    | x :: a, [], HVA, HVB, HM, hlen =>
      go_wp2_with (at_builtin; refine wpList_append_view ty22 rfl _ _ rfl w.heap.size _ dn (x :: a) pa ca rfl rfl HD.out (HVA.out.upd U1) U1.size (by simp at hlen ⊢; omega) ?_)
      intro v2 w2 ho2 hg2
      have U2 := own_grown HD.out hg2 U1 (Nat.le_refl _)
      clear hg2
      go_wp2_with (at_builtin; refine wpList_append_view ty22 rfl _ _ rfl w.heap.size _ _ [] pb cb rfl rfl ho2 (HVB.out.upd U2) U2.size (by simp at hlen ⊢; omega) ?_)
      intro v3 w3 ho3 hg3
      have U3 := own_grown ho2 hg3 U2 (Nat.le_refl _)
      clear hg3
      go_wp2
      go_ret
      refine ⟨⟨_, rfl, ?_⟩, U3⟩
      rw [← HM.out, mergeP_nil_right]
      simpa using ho3
    | x :: a, y :: b, HVA, HVB, HM, hlen =>
      obtain ⟨ba, oa, rfl, hba, hca⟩ := HVA.out.cells 0 x rfl
      obtain ⟨bb, ob, rfl, hbb, hcb⟩ := HVB.out.cells 0 y rfl
      have c1 := hca 0 x rfl
      have c2 := hcb 0 y rfl
      rw [Nat.zero_mul, Nat.add_zero] at c1 c2
      have k1 := (U1.cell (p := ⟨ba, oa, none⟩) hba (by simp)).trans c1.1
      have k2 := (U1.cell (p := ⟨ba, oa + 1, none⟩) hba (by simp)).trans c1.2
      have k3 := (U1.cell (p := ⟨bb, ob, none⟩) hbb (by simp)).trans c2.1
      have k4 := (U1.cell (p := ⟨bb, ob + 1, none⟩) hbb (by simp)).trans c2.2
      have hb3 := Nat.lt_of_lt_of_le hba U1.size
      have hb4 := Nat.lt_of_lt_of_le hbb U1.size
      clear c1 c2
      have z1 : (0 : Int) < (a.length : Int) + 1 := by omega
      have z2 : (0 : Int) < (b.length : Int) + 1 := by omega
      simp only [List.length_cons] at hlen
      clear hca hcb
      by_cases hlt : ltP false y x
      · have ht : decide (ordP false y x < 0) = true := decide_eq_true (ordP_lt.2 hlt)
        have HLT := Lib.hid hlt
        clear hlt
        go_wp2_with fail
        go_region_held3 (fun w' => w'.cell? ⟨ba, oa, none⟩ = some (Enc.c0 x) ∧ w'.cell? ⟨ba, oa + 1, none⟩ = some (Enc.c1 x) ∧ w'.cell? ⟨bb, ob, none⟩ = some (Enc.c0 y) ∧ w'.cell? ⟨bb, ob + 1, none⟩ = some (Enc.c1 y)) (first | exact ⟨k1, k2, k3, k4⟩ | exact S9)
          (first | (go_at_call 23; refine (cmp_any y x _).mono ?_; rintro e w9 ⟨rfl, U9⟩; have S9 : w9.cell? ⟨ba, oa, none⟩ = some (Enc.c0 x) ∧ w9.cell? ⟨ba, oa + 1, none⟩ = some (Enc.c1 x) ∧ w9.cell? ⟨bb, ob, none⟩ = some (Enc.c0 y) ∧ w9.cell? ⟨bb, ob + 1, none⟩ = some (Enc.c1 y) := ⟨(U9.cell (p := ⟨ba, oa, none⟩) hb3 (by simp)).trans k1, (U9.cell (p := ⟨ba, oa + 1, none⟩) hb3 (by simp)).trans k2, (U9.cell (p := ⟨bb, ob, none⟩) hb4 (by simp)).trans k3, (U9.cell (p := ⟨bb, ob + 1, none⟩) hb4 (by simp)).trans k4⟩))
        have U2 : Upd [] w w9 := U1.drew.trans U9
        have HD2 : Own 24 w9 w.heap.size u7 dn := (HD.out.kept ((Upd.refl [] wr).drew) (by simp)).kept U9 (by simp)
        have hb2 := Nat.lt_of_lt_of_le hbb U2.size
        have k5 := S9.2.2.1
        have k6 := S9.2.2.2
        have HS9 := Lib.hid S9
        clear HD U1 U9 S9 k1 k2 k3 k4 ht hb3 hb4
        have HD := Lib.hid HD2
        clear HD2
        have z3 : (1 : Int) ≤ (b.length : Int) + 1 := by omega
        by_cases hcb : cb = 1
        · subst hcb
          go_wp2_with fail
          go_region_held3 (fun w' => w'.cell? ⟨bb, ob, none⟩ = some (Enc.c0 y) ∧ w'.cell? ⟨bb, ob + 1, none⟩ = some (Enc.c1 y)) (first | exact ⟨k5, k6⟩ | exact ⟨(((Upd.refl [] w9).alloc _).cell (p := ⟨bb, ob, none⟩) hb2 (by simp)).trans k5, (((Upd.refl [] w9).alloc _).cell (p := ⟨bb, ob + 1, none⟩) hb2 (by simp)).trans k6⟩ | exact S8)
            (first | (refine step_append_one ty22 (u := y) rfl (.tmp 31) (.tmp 35) rfl w.heap.size u7 dn w9.heap.size 1 (by rfl) (by rfl) (oneAt_new _ _ _) (HD.out.kept ((Upd.refl [] w9).alloc (.cells #[Enc.c0 y, Enc.c1 y] 24)).drew (by simp)) (U2.alloc _).size (by omega) ?_; intro g8 cap8 w2 ho2 hg8 hm8; have U3 : Upd [] w w2 := own_grown (HD.out.kept ((Upd.refl [] w9).alloc (.cells #[Enc.c0 y, Enc.c1 y] 24)).drew (by simp)) hg8 ((U2.alloc _).drew) (Nat.le_refl _); have S8 : w2.cell? ⟨bb, ob, none⟩ = some (Enc.c0 y) ∧ w2.cell? ⟨bb, ob + 1, none⟩ = some (Enc.c1 y) := ⟨(U3.cell (p := ⟨bb, ob, none⟩) hbb (by simp)).trans ((U2.cell (p := ⟨bb, ob, none⟩) hbb (by simp)).symm.trans k5), (U3.cell (p := ⟨bb, ob + 1, none⟩) hbb (by simp)).trans ((U2.cell (p := ⟨bb, ob + 1, none⟩) hbb (by simp)).symm.trans k6)⟩))
          go_wp2_with fail
          go_roundw
          case rel =>
              refine ⟨x :: a, b, dn ++ [y], _, _, ca, 1 - 1, rfl, rfl, HVA.out, HVB.out.tail _ (.inr ⟨rfl, by simp⟩), ho2, ?_, by simp; omega, U3⟩
              rw [← HM.out, mergeP, if_pos HLT.out]; simp
          case measure => simp [lenV]
        · skip
          go_wp2_with fail
          go_region_held3 (fun w' => w'.cell? ⟨bb, ob, none⟩ = some (Enc.c0 y) ∧ w'.cell? ⟨bb, ob + 1, none⟩ = some (Enc.c1 y)) (first | exact ⟨k5, k6⟩ | exact ⟨(((Upd.refl [] w9).alloc _).cell (p := ⟨bb, ob, none⟩) hb2 (by simp)).trans k5, (((Upd.refl [] w9).alloc _).cell (p := ⟨bb, ob + 1, none⟩) hb2 (by simp)).trans k6⟩ | exact S8)
            (first | (refine step_append_one ty22 (u := y) rfl (.tmp 31) (.tmp 35) rfl w.heap.size u7 dn w9.heap.size 1 (by rfl) (by rfl) (oneAt_new _ _ _) (HD.out.kept ((Upd.refl [] w9).alloc (.cells #[Enc.c0 y, Enc.c1 y] 24)).drew (by simp)) (U2.alloc _).size (by omega) ?_; intro g8 cap8 w2 ho2 hg8 hm8; have U3 : Upd [] w w2 := own_grown (HD.out.kept ((Upd.refl [] w9).alloc (.cells #[Enc.c0 y, Enc.c1 y] 24)).drew (by simp)) hg8 ((U2.alloc _).drew) (Nat.le_refl _); have S8 : w2.cell? ⟨bb, ob, none⟩ = some (Enc.c0 y) ∧ w2.cell? ⟨bb, ob + 1, none⟩ = some (Enc.c1 y) := ⟨(U3.cell (p := ⟨bb, ob, none⟩) hbb (by simp)).trans ((U2.cell (p := ⟨bb, ob, none⟩) hbb (by simp)).symm.trans k5), (U3.cell (p := ⟨bb, ob + 1, none⟩) hbb (by simp)).trans ((U2.cell (p := ⟨bb, ob + 1, none⟩) hbb (by simp)).symm.trans k6)⟩))
          go_wp2_with fail
          go_roundw
          case rel =>
              refine ⟨x :: a, b, dn ++ [y], _, _, ca, cb - 1, rfl, rfl, HVA.out, HVB.out.tail _ (.inl rfl), ho2, ?_, by simp; omega, U3⟩
              rw [← HM.out, mergeP, if_pos HLT.out]; simp
          case measure => simp [lenV]
      · have ht : decide (ordP false y x < 0) = false := decide_eq_false (fun e => hlt (ordP_lt.1 e))
        have HLT := Lib.hid hlt
        clear hlt
        go_wp2_with fail
        go_region_held3 (fun w' => w'.cell? ⟨ba, oa, none⟩ = some (Enc.c0 x) ∧ w'.cell? ⟨ba, oa + 1, none⟩ = some (Enc.c1 x) ∧ w'.cell? ⟨bb, ob, none⟩ = some (Enc.c0 y) ∧ w'.cell? ⟨bb, ob + 1, none⟩ = some (Enc.c1 y)) (first | exact ⟨k1, k2, k3, k4⟩ | exact S9)
          (first | (go_at_call 23; refine (cmp_any y x _).mono ?_; rintro e w9 ⟨rfl, U9⟩; have S9 : w9.cell? ⟨ba, oa, none⟩ = some (Enc.c0 x) ∧ w9.cell? ⟨ba, oa + 1, none⟩ = some (Enc.c1 x) ∧ w9.cell? ⟨bb, ob, none⟩ = some (Enc.c0 y) ∧ w9.cell? ⟨bb, ob + 1, none⟩ = some (Enc.c1 y) := ⟨(U9.cell (p := ⟨ba, oa, none⟩) hb3 (by simp)).trans k1, (U9.cell (p := ⟨ba, oa + 1, none⟩) hb3 (by simp)).trans k2, (U9.cell (p := ⟨bb, ob, none⟩) hb4 (by simp)).trans k3, (U9.cell (p := ⟨bb, ob + 1, none⟩) hb4 (by simp)).trans k4⟩))
        have U2 : Upd [] w w9 := U1.drew.trans U9
        have HD2 : Own 24 w9 w.heap.size u7 dn := (HD.out.kept ((Upd.refl [] wr).drew) (by simp)).kept U9 (by simp)
        have hb2 := Nat.lt_of_lt_of_le hba U2.size
        have k5 := S9.1
        have k6 := S9.2.1
        have HS9 := Lib.hid S9
        clear HD U1 U9 S9 k1 k2 k3 k4 ht hb3 hb4
        have HD := Lib.hid HD2
        clear HD2
        have z3 : (1 : Int) ≤ (a.length : Int) + 1 := by omega
        by_cases hcb : ca = 1
        · subst hcb
          go_wp2_with fail
          go_region_held3 (fun w' => w'.cell? ⟨ba, oa, none⟩ = some (Enc.c0 x) ∧ w'.cell? ⟨ba, oa + 1, none⟩ = some (Enc.c1 x)) (first | exact ⟨k5, k6⟩ | exact ⟨(((Upd.refl [] w9).alloc _).cell (p := ⟨ba, oa, none⟩) hb2 (by simp)).trans k5, (((Upd.refl [] w9).alloc _).cell (p := ⟨ba, oa + 1, none⟩) hb2 (by simp)).trans k6⟩ | exact S8)
            (first | (refine step_append_one ty22 (u := x) rfl (.tmp 39) (.tmp 43) rfl w.heap.size u7 dn w9.heap.size 1 (by rfl) (by rfl) (oneAt_new _ _ _) (HD.out.kept ((Upd.refl [] w9).alloc (.cells #[Enc.c0 x, Enc.c1 x] 24)).drew (by simp)) (U2.alloc _).size (by omega) ?_; intro g8 cap8 w2 ho2 hg8 hm8; have U3 : Upd [] w w2 := own_grown (HD.out.kept ((Upd.refl [] w9).alloc (.cells #[Enc.c0 x, Enc.c1 x] 24)).drew (by simp)) hg8 ((U2.alloc _).drew) (Nat.le_refl _); have S8 : w2.cell? ⟨ba, oa, none⟩ = some (Enc.c0 x) ∧ w2.cell? ⟨ba, oa + 1, none⟩ = some (Enc.c1 x) := ⟨(U3.cell (p := ⟨ba, oa, none⟩) hba (by simp)).trans ((U2.cell (p := ⟨ba, oa, none⟩) hba (by simp)).symm.trans k5), (U3.cell (p := ⟨ba, oa + 1, none⟩) hba (by simp)).trans ((U2.cell (p := ⟨ba, oa + 1, none⟩) hba (by simp)).symm.trans k6)⟩))
          go_wp2_with fail
          go_roundw
          case rel =>
              refine ⟨a, y :: b, dn ++ [x], _, _, 1 - 1, cb, rfl, rfl, HVA.out.tail _ (.inr ⟨rfl, by simp⟩), HVB.out, ho2, ?_, by simp; omega, U3⟩
              rw [← HM.out, mergeP, if_neg HLT.out]; simp
          case measure => simp [lenV]
        · skip
          go_wp2_with fail
          go_region_held3 (fun w' => w'.cell? ⟨ba, oa, none⟩ = some (Enc.c0 x) ∧ w'.cell? ⟨ba, oa + 1, none⟩ = some (Enc.c1 x)) (first | exact ⟨k5, k6⟩ | exact ⟨(((Upd.refl [] w9).alloc _).cell (p := ⟨ba, oa, none⟩) hb2 (by simp)).trans k5, (((Upd.refl [] w9).alloc _).cell (p := ⟨ba, oa + 1, none⟩) hb2 (by simp)).trans k6⟩ | exact S8)
            (first | (refine step_append_one ty22 (u := x) rfl (.tmp 39) (.tmp 43) rfl w.heap.size u7 dn w9.heap.size 1 (by rfl) (by rfl) (oneAt_new _ _ _) (HD.out.kept ((Upd.refl [] w9).alloc (.cells #[Enc.c0 x, Enc.c1 x] 24)).drew (by simp)) (U2.alloc _).size (by omega) ?_; intro g8 cap8 w2 ho2 hg8 hm8; have U3 : Upd [] w w2 := own_grown (HD.out.kept ((Upd.refl [] w9).alloc (.cells #[Enc.c0 x, Enc.c1 x] 24)).drew (by simp)) hg8 ((U2.alloc _).drew) (Nat.le_refl _); have S8 : w2.cell? ⟨ba, oa, none⟩ = some (Enc.c0 x) ∧ w2.cell? ⟨ba, oa + 1, none⟩ = some (Enc.c1 x) := ⟨(U3.cell (p := ⟨ba, oa, none⟩) hba (by simp)).trans ((U2.cell (p := ⟨ba, oa, none⟩) hba (by simp)).symm.trans k5), (U3.cell (p := ⟨ba, oa + 1, none⟩) hba (by simp)).trans ((U2.cell (p := ⟨ba, oa + 1, none⟩) hba (by simp)).symm.trans k6)⟩))
          go_wp2_with fail
          go_roundw
          case rel =>
              refine ⟨a, y :: b, dn ++ [x], _, _, ca - 1, cb, rfl, rfl, HVA.out.tail _ (.inl rfl), HVB.out, ho2, ?_, by simp; omega, U3⟩
              rw [← HM.out, mergeP, if_neg HLT.out]; simp
          case measure => simp [lenV]

set_option maxHeartbeats 1000000 in
theorem merge_true (p q : Option Addr) (c d : Nat) (xs ys : List Pt) (w : World) (hx : View w p c xs) (hy : View w q d ys) (hn : xs.length + ys.length ≤ 1048576) :
    Calls Try.prog 44 #[.slice p xs.length c, .slice q ys.length d, .func (.func 26) #[] #[]] w fun e w' => (∃ v, e = .returned v ∧ Own 24 w' w.heap.size v (mergeP true xs ys)) ∧ Upd [] w w' := by
  obtain ⟨i0, z0, hi, hz0, hz1, hz2, hz3⟩ := ty22.parts
  have HX := Lib.hid hx
  have HY := Lib.hid hy
  clear hx hy
  go_enter Try.func44, Try.ntmps44
  go_wp2_with (at_make; refine wpList_make_own _ rfl _ _ 22 rfl w.heap.size 24 i0 z0 2 Try.underlying22 hi hz0 hz1 _ _ _ (xs.length + ys.length) rfl rfl (by omega) (by rw [hz2]; omega) (by unfold maxLen; omega) (Nat.le_refl _) ?_)
  intro w1 hown hgr
  have U0 : Upd [] w w1 := (Upd.refl [] w).grown hgr (fun k hk => by cases hk)
  have HO : Own 24 w1 w.heap.size (.slice (some ⟨w.heap.size, 0, none⟩) 0 (xs.length + ys.length)) ([] : List Pt) := hown
  clear hown hgr hi hz0 hz1 hz2 hz3
  go_wp2_with fail
  go_loopw [0, 1, 7] (fun u0 u1 u7 wr => ∃ (a b dn : List Pt) (pa pb : Option Addr) (ca cb : Nat), u0 = .slice pa a.length ca ∧ u1 = .slice pb b.length cb ∧ View w pa ca a ∧ View w pb cb b ∧ Own 24 wr w.heap.size u7 dn ∧ dn ++ mergeP true a b = mergeP true xs ys ∧ dn.length + a.length + b.length = xs.length + ys.length ∧ Upd [] w wr) (fun u0 u1 _ _ => lenV u0 + lenV u1)
  case atStart => exact ⟨xs, ys, [], p, q, c, d, rfl, rfl, HX.out, HY.out, HO, rfl, by simp, U0⟩
  case round =>
    obtain ⟨a, b, dn, pa, pb, ca, cb, rfl, rfl, hva, hvb, hod, hmg, hlen, U1⟩ := hrel
    have HVA := Lib.hid hva
    have HVB := Lib.hid hvb
    have HD := Lib.hid hod
    have HM := Lib.hid hmg
    clear hva hvb hod hmg
    match a, b, HVA, HVB, HM, hlen with
    | [], b, HVA, HVB, HM, hlen =>
      go_wp2_with (at_builtin; refine wpList_append_view ty22 rfl _ _ rfl w.heap.size _ dn [] pa ca rfl rfl HD.out (HVA.out.upd U1) U1.size (by simp at hlen ⊢; omega) ?_)
      intro v2 w2 ho2 hg2
      have U2 := own_grown HD.out hg2 U1 (Nat.le_refl _)
      clear hg2
      go_wp2_with (at_builtin; refine wpList_append_view ty22 rfl _ _ rfl w.heap.size _ _ b pb cb rfl rfl ho2 (HVB.out.upd U2) U2.size (by simp at hlen ⊢; omega) ?_)
      intro v3 w3 ho3 hg3
      have U3 := own_grown ho2 hg3 U2 (Nat.le_refl _)
      clear hg3
      go_wp2
      go_ret
      refine ⟨⟨_, rfl, ?_⟩, U3⟩
      rw [← HM.out, show mergeP true [] b = b from by simp [mergeP]]
      simpa using ho3
    | x :: a, [], HVA, HVB, HM, hlen =>
      go_wp2_with (at_builtin; refine wpList_append_view ty22 rfl _ _ rfl w.heap.size _ dn (x :: a) pa ca rfl rfl HD.out (HVA.out.upd U1) U1.size (by simp at hlen ⊢; omega) ?_)
      intro v2 w2 ho2 hg2
      have U2 := own_grown HD.out hg2 U1 (Nat.le_refl _)
      clear hg2
      go_wp2_with (at_builtin; refine wpList_append_view ty22 rfl _ _ rfl w.heap.size _ _ [] pb cb rfl rfl ho2 (HVB.out.upd U2) U2.size (by simp at hlen ⊢; omega) ?_)
      intro v3 w3 ho3 hg3
      have U3 := own_grown ho2 hg3 U2 (Nat.le_refl _)
      clear hg3
      go_wp2
      go_ret
      refine ⟨⟨_, rfl, ?_⟩, U3⟩
      rw [← HM.out, mergeP_nil_right]
      simpa using ho3
    | x :: a, y :: b, HVA, HVB, HM, hlen =>
      obtain ⟨ba, oa, rfl, hba, hca⟩ := HVA.out.cells 0 x rfl
      obtain ⟨bb, ob, rfl, hbb, hcb⟩ := HVB.out.cells 0 y rfl
      have c1 := hca 0 x rfl
      have c2 := hcb 0 y rfl
      rw [Nat.zero_mul, Nat.add_zero] at c1 c2
      have k1 := (U1.cell (p := ⟨ba, oa, none⟩) hba (by simp)).trans c1.1
      have k2 := (U1.cell (p := ⟨ba, oa + 1, none⟩) hba (by simp)).trans c1.2
      have k3 := (U1.cell (p := ⟨bb, ob, none⟩) hbb (by simp)).trans c2.1
      have k4 := (U1.cell (p := ⟨bb, ob + 1, none⟩) hbb (by simp)).trans c2.2
      have hb3 := Nat.lt_of_lt_of_le hba U1.size
      have hb4 := Nat.lt_of_lt_of_le hbb U1.size
      clear c1 c2
      have z1 : (0 : Int) < (a.length : Int) + 1 := by omega
      have z2 : (0 : Int) < (b.length : Int) + 1 := by omega
      simp only [List.length_cons] at hlen
      clear hca hcb
      by_cases hlt : ltP true y x
      · have ht : decide (ordP true y x < 0) = true := decide_eq_true (ordP_lt.2 hlt)
        have HLT := Lib.hid hlt
        clear hlt
        go_wp2_with fail
        go_region_held3 (fun w' => w'.cell? ⟨ba, oa, none⟩ = some (Enc.c0 x) ∧ w'.cell? ⟨ba, oa + 1, none⟩ = some (Enc.c1 x) ∧ w'.cell? ⟨bb, ob, none⟩ = some (Enc.c0 y) ∧ w'.cell? ⟨bb, ob + 1, none⟩ = some (Enc.c1 y)) (first | exact ⟨k1, k2, k3, k4⟩ | exact S9)
          (first | (go_at_call 26; refine (byrow_any y x _).mono ?_; rintro e w9 ⟨rfl, U9⟩; have S9 : w9.cell? ⟨ba, oa, none⟩ = some (Enc.c0 x) ∧ w9.cell? ⟨ba, oa + 1, none⟩ = some (Enc.c1 x) ∧ w9.cell? ⟨bb, ob, none⟩ = some (Enc.c0 y) ∧ w9.cell? ⟨bb, ob + 1, none⟩ = some (Enc.c1 y) := ⟨(U9.cell (p := ⟨ba, oa, none⟩) hb3 (by simp)).trans k1, (U9.cell (p := ⟨ba, oa + 1, none⟩) hb3 (by simp)).trans k2, (U9.cell (p := ⟨bb, ob, none⟩) hb4 (by simp)).trans k3, (U9.cell (p := ⟨bb, ob + 1, none⟩) hb4 (by simp)).trans k4⟩))
        have U2 : Upd [] w w9 := U1.drew.trans U9
        have HD2 : Own 24 w9 w.heap.size u7 dn := (HD.out.kept ((Upd.refl [] wr).drew) (by simp)).kept U9 (by simp)
        have hb2 := Nat.lt_of_lt_of_le hbb U2.size
        have k5 := S9.2.2.1
        have k6 := S9.2.2.2
        have HS9 := Lib.hid S9
        clear HD U1 U9 S9 k1 k2 k3 k4 ht hb3 hb4
        have HD := Lib.hid HD2
        clear HD2
        have z3 : (1 : Int) ≤ (b.length : Int) + 1 := by omega
        by_cases hcb : cb = 1
        · subst hcb
          go_wp2_with fail
          go_region_held3 (fun w' => w'.cell? ⟨bb, ob, none⟩ = some (Enc.c0 y) ∧ w'.cell? ⟨bb, ob + 1, none⟩ = some (Enc.c1 y)) (first | exact ⟨k5, k6⟩ | exact ⟨(((Upd.refl [] w9).alloc _).cell (p := ⟨bb, ob, none⟩) hb2 (by simp)).trans k5, (((Upd.refl [] w9).alloc _).cell (p := ⟨bb, ob + 1, none⟩) hb2 (by simp)).trans k6⟩ | exact S8)
            (first | (refine step_append_one ty22 (u := y) rfl (.tmp 31) (.tmp 35) rfl w.heap.size u7 dn w9.heap.size 1 (by rfl) (by rfl) (oneAt_new _ _ _) (HD.out.kept ((Upd.refl [] w9).alloc (.cells #[Enc.c0 y, Enc.c1 y] 24)).drew (by simp)) (U2.alloc _).size (by omega) ?_; intro g8 cap8 w2 ho2 hg8 hm8; have U3 : Upd [] w w2 := own_grown (HD.out.kept ((Upd.refl [] w9).alloc (.cells #[Enc.c0 y, Enc.c1 y] 24)).drew (by simp)) hg8 ((U2.alloc _).drew) (Nat.le_refl _); have S8 : w2.cell? ⟨bb, ob, none⟩ = some (Enc.c0 y) ∧ w2.cell? ⟨bb, ob + 1, none⟩ = some (Enc.c1 y) := ⟨(U3.cell (p := ⟨bb, ob, none⟩) hbb (by simp)).trans ((U2.cell (p := ⟨bb, ob, none⟩) hbb (by simp)).symm.trans k5), (U3.cell (p := ⟨bb, ob + 1, none⟩) hbb (by simp)).trans ((U2.cell (p := ⟨bb, ob + 1, none⟩) hbb (by simp)).symm.trans k6)⟩))
          go_wp2_with fail
          go_roundw
          case rel =>
              refine ⟨x :: a, b, dn ++ [y], _, _, ca, 1 - 1, rfl, rfl, HVA.out, HVB.out.tail _ (.inr ⟨rfl, by simp⟩), ho2, ?_, by simp; omega, U3⟩
              rw [← HM.out, mergeP, if_pos HLT.out]; simp
          case measure => simp [lenV]
        · skip
          go_wp2_with fail
          go_region_held3 (fun w' => w'.cell? ⟨bb, ob, none⟩ = some (Enc.c0 y) ∧ w'.cell? ⟨bb, ob + 1, none⟩ = some (Enc.c1 y)) (first | exact ⟨k5, k6⟩ | exact ⟨(((Upd.refl [] w9).alloc _).cell (p := ⟨bb, ob, none⟩) hb2 (by simp)).trans k5, (((Upd.refl [] w9).alloc _).cell (p := ⟨bb, ob + 1, none⟩) hb2 (by simp)).trans k6⟩ | exact S8)
            (first | (refine step_append_one ty22 (u := y) rfl (.tmp 31) (.tmp 35) rfl w.heap.size u7 dn w9.heap.size 1 (by rfl) (by rfl) (oneAt_new _ _ _) (HD.out.kept ((Upd.refl [] w9).alloc (.cells #[Enc.c0 y, Enc.c1 y] 24)).drew (by simp)) (U2.alloc _).size (by omega) ?_; intro g8 cap8 w2 ho2 hg8 hm8; have U3 : Upd [] w w2 := own_grown (HD.out.kept ((Upd.refl [] w9).alloc (.cells #[Enc.c0 y, Enc.c1 y] 24)).drew (by simp)) hg8 ((U2.alloc _).drew) (Nat.le_refl _); have S8 : w2.cell? ⟨bb, ob, none⟩ = some (Enc.c0 y) ∧ w2.cell? ⟨bb, ob + 1, none⟩ = some (Enc.c1 y) := ⟨(U3.cell (p := ⟨bb, ob, none⟩) hbb (by simp)).trans ((U2.cell (p := ⟨bb, ob, none⟩) hbb (by simp)).symm.trans k5), (U3.cell (p := ⟨bb, ob + 1, none⟩) hbb (by simp)).trans ((U2.cell (p := ⟨bb, ob + 1, none⟩) hbb (by simp)).symm.trans k6)⟩))
          go_wp2_with fail
          go_roundw
          case rel =>
              refine ⟨x :: a, b, dn ++ [y], _, _, ca, cb - 1, rfl, rfl, HVA.out, HVB.out.tail _ (.inl rfl), ho2, ?_, by simp; omega, U3⟩
              rw [← HM.out, mergeP, if_pos HLT.out]; simp
          case measure => simp [lenV]
      · have ht : decide (ordP true y x < 0) = false := decide_eq_false (fun e => hlt (ordP_lt.1 e))
        have HLT := Lib.hid hlt
        clear hlt
        go_wp2_with fail
        go_region_held3 (fun w' => w'.cell? ⟨ba, oa, none⟩ = some (Enc.c0 x) ∧ w'.cell? ⟨ba, oa + 1, none⟩ = some (Enc.c1 x) ∧ w'.cell? ⟨bb, ob, none⟩ = some (Enc.c0 y) ∧ w'.cell? ⟨bb, ob + 1, none⟩ = some (Enc.c1 y)) (first | exact ⟨k1, k2, k3, k4⟩ | exact S9)
          (first | (go_at_call 26; refine (byrow_any y x _).mono ?_; rintro e w9 ⟨rfl, U9⟩; have S9 : w9.cell? ⟨ba, oa, none⟩ = some (Enc.c0 x) ∧ w9.cell? ⟨ba, oa + 1, none⟩ = some (Enc.c1 x) ∧ w9.cell? ⟨bb, ob, none⟩ = some (Enc.c0 y) ∧ w9.cell? ⟨bb, ob + 1, none⟩ = some (Enc.c1 y) := ⟨(U9.cell (p := ⟨ba, oa, none⟩) hb3 (by simp)).trans k1, (U9.cell (p := ⟨ba, oa + 1, none⟩) hb3 (by simp)).trans k2, (U9.cell (p := ⟨bb, ob, none⟩) hb4 (by simp)).trans k3, (U9.cell (p := ⟨bb, ob + 1, none⟩) hb4 (by simp)).trans k4⟩))
        have U2 : Upd [] w w9 := U1.drew.trans U9
        have HD2 : Own 24 w9 w.heap.size u7 dn := (HD.out.kept ((Upd.refl [] wr).drew) (by simp)).kept U9 (by simp)
        have hb2 := Nat.lt_of_lt_of_le hba U2.size
        have k5 := S9.1
        have k6 := S9.2.1
        have HS9 := Lib.hid S9
        clear HD U1 U9 S9 k1 k2 k3 k4 ht hb3 hb4
        have HD := Lib.hid HD2
        clear HD2
        have z3 : (1 : Int) ≤ (a.length : Int) + 1 := by omega
        by_cases hcb : ca = 1
        · subst hcb
          go_wp2_with fail
          go_region_held3 (fun w' => w'.cell? ⟨ba, oa, none⟩ = some (Enc.c0 x) ∧ w'.cell? ⟨ba, oa + 1, none⟩ = some (Enc.c1 x)) (first | exact ⟨k5, k6⟩ | exact ⟨(((Upd.refl [] w9).alloc _).cell (p := ⟨ba, oa, none⟩) hb2 (by simp)).trans k5, (((Upd.refl [] w9).alloc _).cell (p := ⟨ba, oa + 1, none⟩) hb2 (by simp)).trans k6⟩ | exact S8)
            (first | (refine step_append_one ty22 (u := x) rfl (.tmp 39) (.tmp 43) rfl w.heap.size u7 dn w9.heap.size 1 (by rfl) (by rfl) (oneAt_new _ _ _) (HD.out.kept ((Upd.refl [] w9).alloc (.cells #[Enc.c0 x, Enc.c1 x] 24)).drew (by simp)) (U2.alloc _).size (by omega) ?_; intro g8 cap8 w2 ho2 hg8 hm8; have U3 : Upd [] w w2 := own_grown (HD.out.kept ((Upd.refl [] w9).alloc (.cells #[Enc.c0 x, Enc.c1 x] 24)).drew (by simp)) hg8 ((U2.alloc _).drew) (Nat.le_refl _); have S8 : w2.cell? ⟨ba, oa, none⟩ = some (Enc.c0 x) ∧ w2.cell? ⟨ba, oa + 1, none⟩ = some (Enc.c1 x) := ⟨(U3.cell (p := ⟨ba, oa, none⟩) hba (by simp)).trans ((U2.cell (p := ⟨ba, oa, none⟩) hba (by simp)).symm.trans k5), (U3.cell (p := ⟨ba, oa + 1, none⟩) hba (by simp)).trans ((U2.cell (p := ⟨ba, oa + 1, none⟩) hba (by simp)).symm.trans k6)⟩))
          go_wp2_with fail
          go_roundw
          case rel =>
              refine ⟨a, y :: b, dn ++ [x], _, _, 1 - 1, cb, rfl, rfl, HVA.out.tail _ (.inr ⟨rfl, by simp⟩), HVB.out, ho2, ?_, by simp; omega, U3⟩
              rw [← HM.out, mergeP, if_neg HLT.out]; simp
          case measure => simp [lenV]
        · skip
          go_wp2_with fail
          go_region_held3 (fun w' => w'.cell? ⟨ba, oa, none⟩ = some (Enc.c0 x) ∧ w'.cell? ⟨ba, oa + 1, none⟩ = some (Enc.c1 x)) (first | exact ⟨k5, k6⟩ | exact ⟨(((Upd.refl [] w9).alloc _).cell (p := ⟨ba, oa, none⟩) hb2 (by simp)).trans k5, (((Upd.refl [] w9).alloc _).cell (p := ⟨ba, oa + 1, none⟩) hb2 (by simp)).trans k6⟩ | exact S8)
            (first | (refine step_append_one ty22 (u := x) rfl (.tmp 39) (.tmp 43) rfl w.heap.size u7 dn w9.heap.size 1 (by rfl) (by rfl) (oneAt_new _ _ _) (HD.out.kept ((Upd.refl [] w9).alloc (.cells #[Enc.c0 x, Enc.c1 x] 24)).drew (by simp)) (U2.alloc _).size (by omega) ?_; intro g8 cap8 w2 ho2 hg8 hm8; have U3 : Upd [] w w2 := own_grown (HD.out.kept ((Upd.refl [] w9).alloc (.cells #[Enc.c0 x, Enc.c1 x] 24)).drew (by simp)) hg8 ((U2.alloc _).drew) (Nat.le_refl _); have S8 : w2.cell? ⟨ba, oa, none⟩ = some (Enc.c0 x) ∧ w2.cell? ⟨ba, oa + 1, none⟩ = some (Enc.c1 x) := ⟨(U3.cell (p := ⟨ba, oa, none⟩) hba (by simp)).trans ((U2.cell (p := ⟨ba, oa, none⟩) hba (by simp)).symm.trans k5), (U3.cell (p := ⟨ba, oa + 1, none⟩) hba (by simp)).trans ((U2.cell (p := ⟨ba, oa + 1, none⟩) hba (by simp)).symm.trans k6)⟩))
          go_wp2_with fail
          go_roundw
          case rel =>
              refine ⟨a, y :: b, dn ++ [x], _, _, ca - 1, cb, rfl, rfl, HVA.out.tail _ (.inl rfl), HVB.out, ho2, ?_, by simp; omega, U3⟩
              rw [← HM.out, mergeP, if_neg HLT.out]; simp
          case measure => simp [lenV]

end Go.Proofs.Ytpoogkgekeocbaa
