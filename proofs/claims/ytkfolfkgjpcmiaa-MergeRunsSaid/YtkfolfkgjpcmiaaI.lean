/- gromaref07.Once. -/
import Derived.Test.YtkfolfkgjpcmiaaHMath
namespace Go.Proofs.Ytkfolfkgjpcmiaa
open Go.RowKit

set_option maxHeartbeats 2000000 in
theorem refonce_any (p : Option Addr) (c : Nat) (xs : List Int) (w : World) (hx : View w p c xs) (hn : xs.length ≤ 1048576) :
    Calls Try.prog 19 #[.slice p xs.length c] w fun e w' => (∃ v, e = .returned v ∧ Own w' w.heap.size v (heads (sortK key xs) xs.length)) ∧ Upd [] w w' := by
  have HX := Lib.hid hx
  clear hx
  go_enter Try.func19, Try.ntmps19
  go_wp2_with (go_at_call 12; refine (refsort_any _ _ xs _ HX.out hn).mono ?_; rintro e W1 ⟨⟨v, rfl, hov⟩, U0⟩)
  obtain ⟨s, hs⟩ : ∃ s, s = sortK key xs := ⟨_, rfl⟩
  have hsl : s.length = xs.length := by rw [hs, sortK_len]
  rw [← hs] at hov
  have HSS := Lib.hid hs
  have HSL := Lib.hid hsl
  have hn2 : s.length ≤ 1048576 := by omega
  clear hs hsl hn
  obtain ⟨po, co, rfl, hvo⟩ := hov.view
  have HV := Lib.hid hvo
  have hsz := U0.size
  clear hov hvo
  go_wp2_with fail
  go_loopw [3, 5] (fun u3 u5 wr => ∃ k : Nat, k ≤ s.length ∧ u5 = .int .i64 k ∧ Own wr W1.heap.size u3 (heads s k) ∧ Upd [] W1 wr) (fun _ u5 _ => s.length - (intOf u5).toNat)
  case atStart => exact ⟨0, Nat.zero_le _, rfl, Own.nil _ _, Upd.refl _ _⟩
  case round =>
    obtain ⟨k, hk, rfl, hown, U1⟩ := hrel
    have HO := Lib.hid hown
    have hhl := heads_len s k
    clear hown
    by_cases hkl : k < s.length
    · obtain ⟨a, ha⟩ : ∃ a, s[k]? = some a := ⟨s[k], List.getElem?_eq_getElem hkl⟩
      obtain ⟨bx, ox, rfl, hbx, hcx⟩ := (HV.out.upd U1).cells k a ha
      have ca := hcx k a ha
      have hna := nth_of ha
      by_cases hk0 : k = 0
      · subst hk0
        have hh : heads s 1 = heads s 0 ++ [a] := by
          show heads s 0 ++ _ = _
          rw [if_pos (by unfold isHead; exact decide_eq_true (.inl rfl)), hna]
        have HH := Lib.hid hh
        clear hh hna hcx ha
        go_wp2_with fail
        go_quiet (fail)
        have ca2 : (wr.drewN nq).cell? ⟨bx, ox, none⟩ = some (.int .i64 a) := ca
        have U2 := U1.drewN nq
        have HO2 : Own (wr.drewN nq) W1.heap.size _ (heads s 0) := HO.out
        clear HO U1 ca
        generalize wr.drewN nq = wr2 at U2 HO2 ca2 ⊢
        have HO := Lib.hid HO2
        clear HO2
        go_wp2_with (at_builtin; refine wpList_append_int (u := a) rfl _ _ rfl W1 _ _ _ 1 (by rfl) (by rfl) (cell_new _ _ _) (HO.out.kept ((Upd.refl [] _).alloc _) (by simp)) (U2.alloc _) (by simp <;> omega) ?_)
        intro v2 w2 ho2 U3
        go_wp2_with fail
        go_roundw
        case rel => exact ⟨1, hkl, by first | go_num | rfl, by rw [HH.out]; exact ho2, U3⟩
        case measure => simp [intOf]; omega
      · obtain ⟨j, rfl⟩ : ∃ j, k = j + 1 := ⟨k - 1, by omega⟩
        obtain ⟨b, hb⟩ : ∃ a, s[j]? = some a := ⟨s[j]'(by omega), List.getElem?_eq_getElem _⟩
        have cb := hcx j b hb
        have hnb := nth_of hb
        have hz : (0 : Int) ≤ (j : Int) + 1 := by omega
        have hz0 : ((j : Int) + 1 == 0) = false := by simp only [beq_eq_false_iff_ne, ne_eq]; omega
        clear hcx ha hb
        by_cases heq : key a = key b
        · have ht : (key a == key b) = true := by rw [beq_iff_eq]; exact heq
          have hh : heads s (j + 2) = heads s (j + 1) := by
            show heads s (j + 1) ++ _ = _
            rw [if_neg (by unfold isHead; rw [decide_eq_true_eq]; simp only [Nat.add_sub_cancel, hna, hnb]; omega), List.append_nil]
          have HH := Lib.hid hh
          clear hh hna hnb heq
          go_wp2_with fail
          go_quiet ((go_at_call 23; first | exact Calls.quiet_of_same (tens_key _ _)))
          go_wp2_with fail
          go_roundw
          case rel => exact ⟨j + 2, hkl, by go_num, by rw [HH.out]; exact HO.out, U1.drewN _⟩
          case measure => simp [intOf]; omega
        · have ht : (key a == key b) = false := by rw [beq_eq_false_iff_ne]; exact heq
          have hh : heads s (j + 2) = heads s (j + 1) ++ [a] := by
            show heads s (j + 1) ++ _ = _
            rw [if_pos (by unfold isHead; rw [decide_eq_true_eq]; simp only [Nat.add_sub_cancel, hna, hnb]; exact .inr (fun e => heq e.symm)), hna]
          have HH := Lib.hid hh
          clear hh hna hnb heq
          go_wp2_with fail
          go_quiet ((go_at_call 23; first | exact Calls.quiet_of_same (tens_key _ _)))
          have ca2 : (wr.drewN nq).cell? ⟨bx, ox + (j + 1), none⟩ = some (.int .i64 a) := ca
          have U2 := U1.drewN nq
          have HO2 : Own (wr.drewN nq) W1.heap.size _ (heads s (j + 1)) := HO.out
          clear HO U1 ca cb
          generalize wr.drewN nq = wr2 at U2 HO2 ca2 ⊢
          have HO := Lib.hid HO2
          clear HO2
          go_wp2_with (at_builtin; refine wpList_append_int (u := a) rfl _ _ rfl W1 _ _ _ 1 (by rfl) (by rfl) (cell_new _ _ _) (HO.out.kept ((Upd.refl [] _).alloc _) (by simp)) (U2.alloc _) (by simp <;> omega) ?_)
          intro v2 w2 ho2 U3
          go_wp2_with fail
          go_roundw
          case rel => exact ⟨j + 2, hkl, by go_num, by rw [HH.out]; exact ho2, U3⟩
          case measure => simp [intOf]; omega
    · have hke : k = s.length := by omega
      subst hke
      go_wp2_with fail
      go_ret
      rw [← HSS.out, ← HSL.out]
      exact ⟨⟨_, rfl, HO.out.mono hsz⟩, U0.trans U1⟩

end Go.Proofs.Ytkfolfkgjpcmiaa
