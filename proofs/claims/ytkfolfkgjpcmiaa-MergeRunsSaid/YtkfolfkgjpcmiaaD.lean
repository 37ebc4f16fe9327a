/- gromaref07.Sort. -/
import Derived.Test.YtkfolfkgjpcmiaaC
namespace Go.Proofs.Ytkfolfkgjpcmiaa
open Go.RowKit

/-- One number is appended. -/
theorem wpList_append_int {ops : Array Oper} {rest : List Oper} {o : Oper} {a : Act} {Q : Exit → Act → World → Prop} {w : World} {u : Int} (hgd : o.guard = none) (s x : Operand)
    (ho : o.op = .call { callee := .builtin .append, args := #[s, x], argTypes := #[22, 22] })
    (w0 : World) (v : Value) (xs : List Int) (b c : Nat) (hs : a.eval s = v) (hx : a.eval x = .slice (some ⟨b, 0, none⟩) 1 c) (hc : w.cell? ⟨b, 0, none⟩ = some (.int .i64 u))
    (hown : Own w w0.heap.size v xs) (hu : Upd [] w0 w) (hn : xs.length + 1 ≤ 1048576)
    (h : ∀ v' w', Own w' w0.heap.size v' (xs ++ [u]) → Upd [] w0 w' → wpList Try.prog ops Q rest (a.put o.dst v') w') : wpList Try.prog ops Q (o :: rest) a w := by
  refine wpList_plain hgd fun _ hK => ?_
  obtain ⟨i0, hi, hz0, hz1, hz2⟩ := info_parts Try.info3
  obtain ⟨g, cap, w', hr, h2, h3, _, _⟩ := run_append_lies (P := Try.prog) w 22 o.type w0.heap.size 3 i0 (.int .i64 0) 1 8 Try.underlying22 hi hz0 hz1 hz2 rfl (by decide) v xs.length (ints xs) hown
    ⟨b, 0, none⟩ 1 c [.int .i64 u] rfl (fun j v hj => by match j, hj with | 0, hj => simp at hj; subst hj; rw [add_flat]; exact hc) (by intro u hu; simp at hu; subst hu; rfl) (by omega) (by unfold maxLen; omega) (by omega) hu.size _ rfl
  have h5 := own_grown hown h3 hu (Nat.le_refl _)
  unfold Oper.wp execOp
  simp only [ho, resolve, invoke, builtin, Sem.run_bind, Sem.run_pure, Result.andThen_ok, List.map_toArray, List.map_cons, List.map_nil, hs, hx, hr]
  refine hK _ _ (h _ w' ?_ h5)
  unfold Own
  rw [ints_append, List.length_append]
  exact h2

theorem atOf_step (l : List Int) (x y : Int) (n : Nat) (h : l[n]? = some y) : atOf key l x (n + 1) = if key y > key x then atOf key l x n else n + 1 := by
  simp only [atOf, h, Option.getD_some]

set_option maxHeartbeats 2000000 in
theorem refsort_any (p : Option Addr) (c : Nat) (xs : List Int) (w : World) (hx : View w p c xs) (hn : xs.length ≤ 1048576) :
    Calls Try.prog 12 #[.slice p xs.length c] w fun e w' => (∃ v, e = .returned v ∧ Own w' w.heap.size v (sortK key xs)) ∧ Upd [] w w' := by
  have HX := Lib.hid hx
  clear hx
  go_enter Try.func12, Try.ntmps12
  go_wp2_with fail
  go_loopw [3, 4] (fun u3 u4 wr => ∃ k : Nat, k ≤ xs.length ∧ u4 = .int .i64 k ∧ Own wr w.heap.size u3 (sortK key (xs.take k)) ∧ Upd [] w wr) (fun _ u4 _ => xs.length - (intOf u4).toNat)
  case atStart => exact ⟨0, Nat.zero_le _, rfl, Own.nil _ _, Upd.refl _ _⟩
  case round =>
    obtain ⟨k, hk, rfl, hown, U0⟩ := hrel
    have hosl : (sortK key (xs.take k)).length = k := by rw [sortK_len, List.length_take]; omega
    by_cases hkl : k < xs.length
    · obtain ⟨x, hxk⟩ : ∃ x, xs[k]? = some x := ⟨xs[k], List.getElem?_eq_getElem hkl⟩
      have hnext : ins key (sortK key (xs.take k)) x = sortK key (xs.take (k + 1)) := by rw [List.take_add_one, hxk, Option.toList_some, sortK_snoc]
      obtain ⟨bx, ox, rfl, hbx, hcx⟩ := (HX.out.upd U0).cells k x hxk
      have cx := hcx k x hxk
      have HN := Lib.hid hnext
      clear hcx hnext hxk
      generalize sortK key (xs.take k) = os at hown hosl HN
      obtain ⟨po, co, rfl, hvo⟩ := hown.view
      have HO := Lib.hid hown
      have HV := Lib.hid hvo
      have hol : os.length + 1 ≤ 1048576 := by omega
      have hol2 : os.length ≤ 1048576 := by omega
      have HL := Lib.hid hosl
      clear hown hvo hosl
      obtain ⟨W1, hW1⟩ : ∃ W, W = wr := ⟨_, rfl⟩
      subst hW1
      go_wp2_with fail
      go_loopw [5] (fun u5 wq => ∃ n : Nat, n ≤ os.length ∧ u5 = .int .i64 n ∧ atOf key os x n = atOf key os x os.length ∧ Upd [] W1 wq) (fun u5 _ => (intOf u5).toNat)
      case atStart => exact ⟨os.length, Nat.le_refl _, rfl, rfl, Upd.refl _ _⟩
      case round =>
        obtain ⟨n, hn', rfl, hat, U1⟩ := hrel
        have HAT := Lib.hid hat
        clear hat
        match n, hn', HAT with
        | 0, hn', HAT =>
          go_wp2_with fail
          go_quiet (fail)
          go_wp2_with fail
          have c1 : atOf key os x os.length = 0 := HAT.out.symm
          have HC := Lib.hid c1
          clear c1 HAT
          have U2 := U1.drewN nq
          clear U1
          generalize wr.drewN nq = W2 at U2 ⊢
          have HV2 := Lib.hid (HV.out.upd U2)
          have cx3 := (U2.cell (p := ⟨bx, ox + k, none⟩) hbx (by simp)).trans cx
          have hbx2 := Nat.lt_of_lt_of_le hbx U2.size
          go_loopw [6, 7] (fun u6 u7 wq => ∃ j : Nat, j ≤ 0 ∧ u7 = .int .i64 j ∧ Own wq W2.heap.size u6 (os.take j) ∧ Upd [] W2 wq) (fun _ u7 _ => 0 - (intOf u7).toNat)
          case atStart => exact ⟨0, Nat.zero_le _, rfl, Own.nil _ _, Upd.refl _ _⟩
          case round =>
            obtain ⟨j, hj, rfl, hown6, U3⟩ := hrel
            have HO6 := Lib.hid hown6
            clear hown6
            by_cases hjn : j < 0
            · exact absurd hjn (Nat.not_lt_zero _)
            · have hje : j = 0 := by omega
              subst hje
              have cx4 := (U3.cell (p := ⟨bx, ox + k, none⟩) hbx2 (by simp)).trans cx3
              go_wp2_with (at_builtin; refine wpList_append_int (u := x) rfl _ _ rfl W2 u6 _ _ 1 (by rfl) (by rfl) (cell_new _ _ _) (HO6.out.kept ((Upd.refl [] wr).alloc _) (by simp)) (U3.alloc _) (by simp <;> omega) ?_)
              intro v7 w7 ho7 U7
              clear HO6 U3 cx4
              go_wp2_with fail
              go_loopw [6, 8] (fun u6 u8 wq => ∃ j : Nat, 0 ≤ j ∧ j ≤ os.length ∧ u8 = .int .i64 j ∧ Own wq W2.heap.size u6 (os.take 0 ++ [x] ++ (os.drop 0).take (j - 0)) ∧ Upd [] W2 wq) (fun _ u8 _ => os.length - (intOf u8).toNat)
              case atStart => exact ⟨0, Nat.le_refl _, by omega, rfl, by simpa using ho7, U7⟩
              case round =>
                obtain ⟨j, hj1, hj2, rfl, hown8, U8⟩ := hrel
                have HO8 := Lib.hid hown8
                clear hown8
                by_cases hjo : j < os.length
                · obtain ⟨z, hz⟩ : ∃ z, os[j]? = some z := ⟨os[j], List.getElem?_eq_getElem hjo⟩
                  obtain ⟨b2, o2, hpo, hbo2, hco⟩ := HV2.out.cells j z hz
                  have cz := (U8.cell (p := ⟨b2, o2 + j, none⟩) hbo2 (by simp)).trans (hco j z hz)
                  clear hbo2
                  have HZ := Lib.hid hz
                  clear hco hz
                  cases hpo
                  go_wp2_with (at_builtin; refine wpList_append_int (u := z) rfl _ _ rfl W2 u6 _ _ 1 (by rfl) (by rfl) (cell_new _ _ _) (HO8.out.kept ((Upd.refl [] wr).alloc _) (by simp)) (U8.alloc _) (by simp <;> omega) ?_)
                  intro v9 w9 ho9 U9
                  go_wp2_with fail
                  go_roundw
                  case rel =>
                    refine ⟨j + 1, by omega, by omega, by go_num, ?_, U9⟩
                    have e9 : (os.drop 0).take (j + 1 - 0) = (os.drop 0).take (j - 0) ++ [z] := by
                      rw [show j + 1 - 0 = (j - 0) + 1 from by omega, List.take_add_one, List.getElem?_drop, show 0 + (j - 0) = j from by omega, HZ.out, Option.toList_some]
                    rw [e9]
                    first | (rw [← List.append_assoc]; exact ho9) | simpa using ho9
                  case measure => simp [intOf]; omega
                · have hje : j = os.length := by omega
                  subst hje
                  have U10 := U2.trans U8
                  go_wp2_with fail
                  go_roundw
                  case rel =>
                    refine ⟨k + 1, by omega, by go_num, ?_, U0.trans U10⟩
                    rw [← HN.out, ins, HC.out]
                    have e8 : (os.drop 0).take (os.length - 0) = os.drop 0 := List.take_of_length_le (by rw [List.length_drop]; omega)
                    have h8 := HO8.out
                    have hB := Nat.le_trans U0.size U2.size
                    first | (rw [e8] at h8; exact h8.mono hB) | (simp at h8 ⊢; exact h8.mono hB)
                  case measure => simp [intOf]; omega
        | n + 1, hn', HAT =>
          obtain ⟨y, hyn⟩ : ∃ y, os[n]? = some y := ⟨os[n], List.getElem?_eq_getElem (by omega)⟩
          obtain ⟨bo, oo, rfl, hbo, hco⟩ := (HV.out.upd U1).cells n y hyn
          have cy := hco n y hyn
          have cx2 := (U1.cell (p := ⟨bx, ox + k, none⟩) hbx (by simp)).trans cx
          have hst := atOf_step os x y n hyn
          have HS := Lib.hid hst
          clear hco hst hyn
          by_cases hgt : key y > key x
          · have ht : decide (key x < key y) = true := decide_eq_true hgt
            have HGT := Lib.hid hgt
            clear hgt
            go_wp2_with fail
            go_quiet ((go_at_call 23; first | exact Calls.quiet_of_same (tens_key _ _)))
            go_wp2_with fail
            go_roundw
            case rel => exact ⟨n, by omega, rfl, by rw [← HAT.out, HS.out, if_pos HGT.out], U1.drewN _⟩
            case measure => simp [intOf]
          · have ht : decide (key x < key y) = false := decide_eq_false hgt
            have HGT : Hid (¬ key y > key x) := Lib.hid hgt
            clear hgt
            go_wp2_with fail
            go_quiet ((go_at_call 23; first | exact Calls.quiet_of_same (tens_key _ _)))
            go_wp2_with fail
            have c1 : atOf key os x os.length = (n + 1) := by rw [← HAT.out, HS.out, if_neg (Int.not_lt.2 HGT.out)]
            have HC := Lib.hid c1
            clear c1 HAT HS
            have U2 := U1.drewN nq
            clear cy cx2 hbo
            clear U1
            generalize wr.drewN nq = W2 at U2 ⊢
            have HV2 := Lib.hid (HV.out.upd U2)
            have cx3 := (U2.cell (p := ⟨bx, ox + k, none⟩) hbx (by simp)).trans cx
            have hbx2 := Nat.lt_of_lt_of_le hbx U2.size
            go_loopw [6, 7] (fun u6 u7 wq => ∃ j : Nat, j ≤ (n + 1) ∧ u7 = .int .i64 j ∧ Own wq W2.heap.size u6 (os.take j) ∧ Upd [] W2 wq) (fun _ u7 _ => (n + 1) - (intOf u7).toNat)
            case atStart => exact ⟨0, Nat.zero_le _, rfl, Own.nil _ _, Upd.refl _ _⟩
            case round =>
              obtain ⟨j, hj, rfl, hown6, U3⟩ := hrel
              have HO6 := Lib.hid hown6
              clear hown6
              by_cases hjn : j < (n + 1)
              · obtain ⟨z, hz⟩ : ∃ z, os[j]? = some z := ⟨os[j]'(by have := HL.out; omega), List.getElem?_eq_getElem _⟩
                obtain ⟨b2, o2, hpo, hbo2, hco⟩ := HV2.out.cells j z hz
                have cz := (U3.cell (p := ⟨b2, o2 + j, none⟩) hbo2 (by simp)).trans (hco j z hz)
                clear hbo2
                have HZ := Lib.hid hz
                have hjo : j < os.length := by omega
                clear hco hz
                cases hpo
                go_wp2_with (at_builtin; refine wpList_append_int (u := z) rfl _ _ rfl W2 u6 _ _ 1 (by rfl) (by rfl) (cell_new _ _ _) (HO6.out.kept ((Upd.refl [] wr).alloc _) (by simp)) (U3.alloc _) (by simp <;> omega) ?_)
                intro v7 w7 ho7 U7
                go_wp2_with fail
                go_roundw
                case rel =>
                  refine ⟨j + 1, by omega, by go_num, ?_, U7⟩
                  rw [List.take_add_one, HZ.out, Option.toList_some]
                  exact ho7
                case measure => simp [intOf]; omega
              · have hje : j = (n + 1) := by omega
                subst hje
                have cx4 := (U3.cell (p := ⟨bx, ox + k, none⟩) hbx2 (by simp)).trans cx3
                go_wp2_with (at_builtin; refine wpList_append_int (u := x) rfl _ _ rfl W2 u6 _ _ 1 (by rfl) (by rfl) (cell_new _ _ _) (HO6.out.kept ((Upd.refl [] wr).alloc _) (by simp)) (U3.alloc _) (by simp <;> omega) ?_)
                intro v7 w7 ho7 U7
                clear HO6 U3 cx4
                go_wp2_with fail
                go_loopw [6, 8] (fun u6 u8 wq => ∃ j : Nat, (n + 1) ≤ j ∧ j ≤ os.length ∧ u8 = .int .i64 j ∧ Own wq W2.heap.size u6 (os.take (n + 1) ++ [x] ++ (os.drop (n + 1)).take (j - (n + 1))) ∧ Upd [] W2 wq) (fun _ u8 _ => os.length - (intOf u8).toNat)
                case atStart => exact ⟨(n + 1), Nat.le_refl _, by omega, rfl, by simpa using ho7, U7⟩
                case round =>
                  obtain ⟨j, hj1, hj2, rfl, hown8, U8⟩ := hrel
                  have HO8 := Lib.hid hown8
                  clear hown8
                  by_cases hjo : j < os.length
                  · obtain ⟨z, hz⟩ : ∃ z, os[j]? = some z := ⟨os[j], List.getElem?_eq_getElem hjo⟩
                    obtain ⟨b2, o2, hpo, hbo2, hco⟩ := HV2.out.cells j z hz
                    have cz := (U8.cell (p := ⟨b2, o2 + j, none⟩) hbo2 (by simp)).trans (hco j z hz)
                    clear hbo2
                    have HZ := Lib.hid hz
                    clear hco hz
                    cases hpo
                    go_wp2_with (at_builtin; refine wpList_append_int (u := z) rfl _ _ rfl W2 u6 _ _ 1 (by rfl) (by rfl) (cell_new _ _ _) (HO8.out.kept ((Upd.refl [] wr).alloc _) (by simp)) (U8.alloc _) (by simp <;> omega) ?_)
                    intro v9 w9 ho9 U9
                    go_wp2_with fail
                    go_roundw
                    case rel =>
                      refine ⟨j + 1, by omega, by omega, by go_num, ?_, U9⟩
                      have e9 : (os.drop (n + 1)).take (j + 1 - (n + 1)) = (os.drop (n + 1)).take (j - (n + 1)) ++ [z] := by
                        rw [show j + 1 - (n + 1) = (j - (n + 1)) + 1 from by omega, List.take_add_one, List.getElem?_drop, show (n + 1) + (j - (n + 1)) = j from by omega, HZ.out, Option.toList_some]
                      rw [e9]
                      first | (rw [← List.append_assoc]; exact ho9) | simpa using ho9
                    case measure => simp [intOf]; omega
                  · have hje : j = os.length := by omega
                    subst hje
                    have U10 := U2.trans U8
                    go_wp2_with fail
                    go_roundw
                    case rel =>
                      refine ⟨k + 1, by omega, by go_num, ?_, U0.trans U10⟩
                      rw [← HN.out, ins, HC.out]
                      have e8 : (os.drop (n + 1)).take (os.length - (n + 1)) = os.drop (n + 1) := List.take_of_length_le (by rw [List.length_drop]; omega)
                      have h8 := HO8.out
                      have hB := Nat.le_trans U0.size U2.size
                      first | (rw [e8] at h8; exact h8.mono hB) | (simp at h8 ⊢; exact h8.mono hB)
                    case measure => simp [intOf]; omega
    · have hkx : k = xs.length := by omega
      subst hkx
      rw [List.take_length] at hown
      have HO := Lib.hid hown
      clear hown hosl
      go_wp2
      go_ret
      exact ⟨⟨_, rfl, HO.out⟩, U0⟩

end Go.Proofs.Ytkfolfkgjpcmiaa
