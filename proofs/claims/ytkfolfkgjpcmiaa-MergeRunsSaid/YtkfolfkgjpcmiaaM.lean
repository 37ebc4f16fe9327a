/- The laws Sorts, Merges, Once, Finds, Less: the walks. -/
import Derived.Test.YtkfolfkgjpcmiaaL
namespace Go.Proofs.Ytkfolfkgjpcmiaa
open Go.RowKit

theorem eqL_self (xs : List Int) : eqL xs xs = true := by unfold eqL; exact decide_eq_true rfl

theorem own_new (w : World) (xs : List Int) (n : Nat) (hn : xs.length = n) (hm : n ≤ 1048576) : Own (w.alloc (.cells (ints xs).toArray 3)) w.heap.size (.slice (some ⟨w.heap.size, 0, none⟩) n n) xs := by
  subst hn
  refine ⟨by rw [ints_len, Nat.mul_one], .inr ⟨w.heap.size, xs.length, (ints xs).toArray, rfl, Nat.le_refl _, IsRow.new w (ints xs) 3, Nat.le_refl _, by unfold maxLen; omega, by simp [ints_len], ?_⟩⟩
  rw [Nat.mul_one, List.take_of_length_le (by simp [ints_len])]

theorem wpList_append_lst {ops : Array Oper} {rest : List Oper} {o : Oper} {a : Act} {Q : Exit → Act → World → Prop} {w : World} (hgd : o.guard = none) (s x : Operand)
    (ho : o.op = .call { callee := .builtin .append, args := #[s, x], argTypes := #[22, 22] })
    (B : Nat) (v xv : Value) (xs ys : List Int) (hs : a.eval s = v) (hx : a.eval x = xv) (hown : Own w B v xs) (hl : Lst w xv ys) (hB : B ≤ w.heap.size) (hn : xs.length + ys.length ≤ 1048576)
    (h : ∀ v' w', Own w' B v' (xs ++ ys) → w.grownBy w' v.ownBlock → wpList Try.prog ops Q rest (a.put o.dst v') w') : wpList Try.prog ops Q (o :: rest) a w := by
  obtain ⟨p, c, rfl, hv⟩ := hl
  exact wpList_append_view hgd s x ho B v xs ys p c hs hx hown hv hB hn h

set_option maxHeartbeats 1000000 in
theorem sorts_all (v : Value) (xs : List Int) (w : World) (hx : Lst w v xs) : Calls Try.prog 3 #[v] w fun e w' => e = .returned (.bool true) ∧ Upd [] w w' := by
  obtain ⟨p, c, rfl, hv⟩ := hx
  by_cases hl : 200 < xs.length
  · go_enter Try.func3, Try.ntmps3
    go_wp2_with (go_at_call 9; refine (awake_any _).mono ?_; rintro e w' ⟨rfl, U⟩)
    go_ret
    exact ⟨rfl, U⟩
  · have hn : xs.length ≤ 200 := by omega
    have hs := sortK_sorted (K := key) xs
    have hb1 : sortedB (sortK key xs) = true := decide_eq_true hs
    have hb2 : sortedB xs = eqL xs (sortK key xs) := by
      unfold sortedB eqL
      by_cases h : Sorted key xs
      · rw [decide_eq_true h, sortK_of_sorted h, decide_eq_true rfl]
      · rw [decide_eq_false h]
        exact (decide_eq_false (fun e => h (by rw [e]; exact sortK_sorted xs))).symm
    have hsl := sortK_len (K := key) xs
    have HB1 := Lib.hid hb1
    have HB2 := Lib.hid hb2
    have HSL := Lib.hid hsl
    have l1 := hv.lst
    clear hs hb1 hb2 hsl hv
    go_enter Try.func3, Try.ntmps3
    go_wp2_with (at_builtin; refine wpList_append_lst rfl _ _ rfl w.heap.size _ _ [] xs rfl rfl (own_new w [] 0 rfl (by decide)) (l1.upd ((Upd.refl [] w).alloc _)) (by simp) (by simp; omega) ?_)
    intro v1 w1 ho1 hg1
    have U1 : Upd [] w w1 := ((Upd.refl [] w).alloc _).grown hg1 (fun k hk => by cases hk; exact .inr (Nat.le_refl _))
    have l2 := l1.upd U1
    have k2 := ho1.lst
    clear l1 ho1 hg1
    go_wp2_with fail
    refine (sort_l l2 (by omega)).mono ?_
    rintro e w2 ⟨⟨r, rfl, ho⟩, U2⟩
    have l3 := l2.upd U2
    have k3 := k2.upd U2
    have s3 := ho.lst
    have U3 := U1.trans U2
    clear l2 k2 ho U1 U2
    go_wp2_with fail
    refine (refsort_l l3 (by omega)).mono ?_
    rintro e w3 ⟨⟨r2, rfl, ho⟩, U4⟩
    have l4 := l3.upd U4
    have k4 := k3.upd U4
    have s4 := s3.upd U4
    have t4 := ho.lst
    have U5 := U3.trans U4
    clear l3 k3 s3 ho U3 U4
    go_wp2_with fail
    refine (equal_l s4 t4 (by rw [HSL.out]; omega)).mono ?_
    rintro e w4 ⟨rfl, U6⟩
    rw [eqL_self]
    have l5 := l4.upd U6
    have k5 := k4.upd U6
    have s5 := s4.upd U6
    have t5 := t4.upd U6
    have U7 := U5.trans U6
    clear l4 k4 s4 t4 U5 U6
    go_wp2_with fail
    refine (sorted_l s5 (by rw [HSL.out]; omega)).mono ?_
    rintro e w5 ⟨rfl, U8⟩
    rw [HB1.out]
    have l6 := l5.upd U8
    have k6 := k5.upd U8
    have t6 := t5.upd U8
    have U9 := U7.trans U8
    clear l5 k5 s5 t5 U7 U8
    go_wp2_with fail
    refine (sorted_l l6 (by omega)).mono ?_
    rintro e w6 ⟨rfl, U10⟩
    rw [HB2.out]
    have l7 := l6.upd U10
    have k7 := k6.upd U10
    have t7 := t6.upd U10
    have U11 := U9.trans U10
    clear l6 k6 t6 U9 U10
    go_wp2_with fail
    refine (equal_l l7 t7 (by omega)).mono ?_
    rintro e w7 ⟨rfl, U12⟩
    have l8 := l7.upd U12
    have k8 := k7.upd U12
    have U13 := U11.trans U12
    have hbb : (eqL xs (sortK key xs) == eqL xs (sortK key xs)) = true := by simp
    clear l7 k7 t7 U11 U12
    generalize eqL xs (sortK key xs) = b at hbb ⊢
    go_wp2_with fail
    refine (equal_l l8 k8 (by omega)).mono ?_
    rintro e w8 ⟨rfl, U14⟩
    rw [eqL_self]
    have U15 := U13.trans U14
    clear l8 k8 U13 U14
    go_wp2_with fail
    refine (awake_any _).mono ?_
    rintro e w9 ⟨rfl, U16⟩
    have U17 := U15.trans U16
    clear U15 U16
    go_wp2_with fail
    go_ret
    exact ⟨rfl, U17⟩

/-- A number is stored into an own list. -/
theorem Own.store {w : World} {B g n cap i : Nat} {x : List Int} (h : Own w B (.slice (some ⟨g, 0, none⟩) n cap) x) (u : Int) (hi : i < x.length) : Own (w.setCell ⟨g, i, none⟩ (.int .i64 u)) B (.slice (some ⟨g, 0, none⟩) n cap) (x.set i u) := by
  obtain ⟨h1, h2⟩ := h
  rcases h2 with ⟨h2, _⟩ | ⟨g', cap', cur, h2, hb, hg, hc, hm, hs, ht⟩
  · cases h2
  · simp only [Value.slice.injEq, Option.some.injEq, Addr.mk.injEq] at h2
    obtain ⟨⟨rfl, _, _⟩, rfl, rfl⟩ := h2
    refine ⟨by rw [ints_len, Nat.mul_one], .inr ⟨g, cap, cur.setIfInBounds i (.int .i64 u), by rw [List.length_set], hb, ?_, by rw [List.length_set]; exact hc, hm, by simpa using hs, ?_⟩⟩
    · simp [World.setCell, Array.getElem?_modify, hg]
    · rw [List.length_set, Array.toList_setIfInBounds, List.take_set, ht]
      simp [ints, List.map_set]

theorem Own.free {w : World} {B g n cap : Nat} {x : List Int} (h : Own w B (.slice (some ⟨g, 0, none⟩) n cap) x) (i : Nat) : w.frozen? ⟨g, i, none⟩ = false := by
  obtain ⟨h1, h2⟩ := h
  rcases h2 with ⟨h2, _⟩ | ⟨g', cap', cur, h2, hb, hg, _⟩
  · cases h2
  · simp only [Value.slice.injEq, Option.some.injEq, Addr.mk.injEq] at h2
    obtain ⟨⟨rfl, _, _⟩, rfl, rfl⟩ := h2
    simp [World.frozen?, hg]

theorem Own.first {w : World} {B : Nat} {v : Value} {x : List Int} (h : Own w B v x) (hx : 0 < x.length) : ∃ g cap, v = .slice (some ⟨g, 0, none⟩) x.length cap ∧ B ≤ g := by
  rcases h.2 with ⟨_, hn⟩ | ⟨g, cap, cur, rfl, hb, _⟩
  · omega
  · exact ⟨g, cap, rfl, hb⟩

set_option maxHeartbeats 1000000 in
theorem once_all (v : Value) (xs : List Int) (w : World) (hx : Lst w v xs) : Calls Try.prog 6 #[v] w fun e w' => e = .returned (.bool true) ∧ Upd [] w w' := by
  obtain ⟨p, c, rfl, hv⟩ := hx
  by_cases hl : 200 < xs.length
  · go_enter Try.func6, Try.ntmps6
    go_wp2_with (go_at_call 9; refine (awake_any _).mono ?_; rintro e w' ⟨rfl, U⟩)
    go_ret
    exact ⟨rfl, U⟩
  · have hn : xs.length ≤ 200 := by omega
    have hh := heads_len (sortK key xs) xs.length
    have HH := Lib.hid hh
    have l1 := hv.lst
    clear hh hv
    go_enter Try.func6, Try.ntmps6
    go_wp2_with fail
    refine (once_l l1 (by omega)).mono ?_
    rintro e w1 ⟨⟨r, rfl, ho⟩, U1⟩
    have l2 := l1.upd U1
    have s2 := ho.lst
    clear l1 ho
    go_wp2_with fail
    refine (refonce_l l2 (by omega)).mono ?_
    rintro e w2 ⟨⟨r2, rfl, ho⟩, U2⟩
    have s3 := s2.upd U2
    have t3 := ho.lst
    have U3 := U1.trans U2
    clear l2 s2 ho U1 U2
    go_wp2_with fail
    refine (equal_l s3 t3 (by have := HH.out; omega)).mono ?_
    rintro e w3 ⟨rfl, U4⟩
    rw [eqL_self]
    have U5 := U3.trans U4
    clear s3 t3 U3 U4
    go_wp2_with fail
    refine (awake_any _).mono ?_
    rintro e w4 ⟨rfl, U6⟩
    have U7 := U5.trans U6
    clear U5 U6
    go_wp2_with fail
    go_ret
    exact ⟨rfl, U7⟩

set_option maxHeartbeats 1000000 in
theorem finds_all (v : Value) (k : Int) (xs : List Int) (w : World) (hx : Lst w v xs) : Calls Try.prog 7 #[v, .int .i64 k] w fun e w' => e = .returned (.bool true) ∧ Upd [] w w' := by
  obtain ⟨p, c, rfl, hv⟩ := hx
  by_cases hl : 200 < xs.length
  · go_enter Try.func7, Try.ntmps7
    go_wp2_with (go_at_call 9; refine (awake_any _).mono ?_; rintro e w' ⟨rfl, U⟩)
    go_ret
    exact ⟨rfl, U⟩
  · have hn : xs.length ≤ 200 := by omega
    have hs := sortK_sorted (K := key) xs
    have hsl := sortK_len (K := key) xs
    obtain ⟨s, hse⟩ : ∃ s, s = sortK key xs := ⟨_, rfl⟩
    rw [← hse] at hs hsl
    have HSE := Lib.hid hse
    have HS := Lib.hid hs
    have l1 := hv.lst
    have hn2 : s.length ≤ 200 := by omega
    clear hs hse hsl hv
    go_enter Try.func7, Try.ntmps7
    go_wp2_with fail
    refine (refsort_l l1 (by omega)).mono ?_
    rintro e w1 ⟨⟨r, rfl, ho⟩, U1⟩
    rw [← HSE.out] at ho
    have l2 := ho.lst
    clear l1 ho HSE
    go_wp2_with fail
    refine (find_l l2 (by omega) HS.out k).mono ?_
    rintro e w2 ⟨⟨n, rfl, hat⟩, U2⟩
    have l3 := l2.upd U2
    have U3 := U1.trans U2
    obtain ⟨p3, c3, rfl, hv3⟩ := l3
    have HV := Lib.hid hv3
    have HAT := Lib.hid hat
    clear l2 U1 U2 hv3 hat
    go_wp2_with fail
    go_loopw [8] (fun u8 wr => ∃ j : Nat, j ≤ s.length ∧ u8 = .int .i64 j ∧ (∀ i a, i < j → s[i]? = some a → key a < key k) ∧ wr = w2) (fun u8 _ => s.length - (intOf u8).toNat)
    case atStart => exact ⟨0, Nat.zero_le _, rfl, fun i a h => absurd h (Nat.not_lt_zero _), rfl⟩
    case round =>
      obtain ⟨j, hj, rfl, hbf, rfl⟩ := hrel
      have HB := Lib.hid hbf
      clear hbf
      by_cases hjl : j < s.length
      · obtain ⟨a, ha⟩ : ∃ a, s[j]? = some a := ⟨s[j], List.getElem?_eq_getElem hjl⟩
        obtain ⟨bx, ox, rfl, _, hcx⟩ := HV.out.cells j a ha
        have ca := hcx j a ha
        have HA := Lib.hid ha
        clear hcx ha
        by_cases hlt : key a < key k
        · have ht : decide (ord a k < 0) = true := decide_eq_true (ord_lt.2 hlt)
          have HLT := Lib.hid hlt
          clear hlt
          go_wp2_with (go_at_call 11; refine (ord_any _ _ _).mono ?_; rintro e w' ⟨rfl, rfl⟩)
          go_roundw
          case rel =>
            refine ⟨j + 1, hjl, by go_num, fun i b hi hb => ?_, trivial⟩
            by_cases e : i = j
            · subst e; rw [HA.out] at hb; cases hb; exact HLT.out
            · exact HB.out i b (by omega) hb
          case measure => simp [intOf]; omega
        · have ht : decide (ord a k < 0) = false := decide_eq_false (fun e => hlt (ord_lt.1 e))
          have hat2 : At s k j := ⟨hj, HB.out, fun i b hi hb => by have := HS.out.at hi HA.out hb; omega⟩
          have hnj := HAT.out.unique hat2
          subst hnj
          have hia : isAt s k n = (ord a k == 0) := by
            unfold isAt
            rw [HA.out]
            exact Bool.eq_iff_iff.2 (by simp only [beq_iff_eq, decide_eq_true_eq]; exact ord_eq.symm)
          rw [hia]
          have hbb : ((ord a k == 0) == (ord a k == 0)) = true := by simp
          have hnn : ((n : Int) == (n : Int)) = true := by simp
          have hnl : decide ((n : Int) < (s.length : Int)) = true := decide_eq_true (by omega)
          clear hlt hat2 hia
          go_wp2_with (first | (go_at_call 11; refine (ord_any _ _ _).mono ?_; rintro e w' ⟨rfl, rfl⟩) | (go_at_call 9; refine (awake_any _).mono ?_; rintro e w' ⟨rfl, U4⟩))
          go_ret
          exact ⟨rfl, U3.trans U4⟩
      · have hat2 : At s k j := ⟨hj, HB.out, fun i b hi hb => by have := (List.getElem?_eq_some_iff.1 hb).1; omega⟩
        have hnj := HAT.out.unique hat2
        subst hnj
        have hia : isAt s k n = false := by
          unfold isAt
          rw [List.getElem?_eq_none (by omega)]
        rw [hia]
        have hnl : decide ((n : Int) < (s.length : Int)) = false := decide_eq_false (by omega)
        clear hat2 hia
        go_wp2_with (go_at_call 9; refine (awake_any _).mono ?_; rintro e w' ⟨rfl, U4⟩)
        go_ret
        exact ⟨rfl, U3.trans U4⟩

end Go.Proofs.Ytkfolfkgjpcmiaa
