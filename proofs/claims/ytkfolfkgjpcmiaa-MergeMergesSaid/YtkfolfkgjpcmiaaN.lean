/- The laws Merges and Less: the walks. -/
import Derived.Test.YtkfolfkgjpcmiaaM
namespace Go.Proofs.Ytkfolfkgjpcmiaa
open Go.RowKit

set_option maxHeartbeats 1000000 in
theorem merges_all (v u : Value) (xs ys : List Int) (w : World) (hx : Lst w v xs) (hy : Lst w u ys) : Calls Try.prog 4 #[v, u] w fun e w' => e = .returned (.bool true) ∧ Upd [] w w' := by
  obtain ⟨p, c, rfl, hvx⟩ := hx
  obtain ⟨q, d, rfl, hvy⟩ := hy
  by_cases hl : 150 < xs.length
  · go_enter Try.func4, Try.ntmps4
    go_wp2_with (go_at_call 9; refine (awake_any _).mono ?_; rintro e w' ⟨rfl, U⟩)
    go_ret
    exact ⟨rfl, U⟩
  · by_cases hm : 150 < ys.length
    · go_enter Try.func4, Try.ntmps4
      go_wp2_with (go_at_call 9; refine (awake_any _).mono ?_; rintro e w' ⟨rfl, U⟩)
      go_ret
      exact ⟨rfl, U⟩
    · have hn1 : xs.length ≤ 150 := by omega
      have hn2 : ys.length ≤ 150 := by omega
      have hmk := mergeK_eq (sortK_sorted (K := key) xs) (sortK_sorted (K := key) ys)
      have hsx := sortK_len (K := key) xs
      have hsy := sortK_len (K := key) ys
      obtain ⟨s, hs⟩ : ∃ s, s = sortK key xs := ⟨_, rfl⟩
      obtain ⟨t, ht⟩ : ∃ t, t = sortK key ys := ⟨_, rfl⟩
      rw [← hs, ← ht] at hmk
      rw [← hs] at hsx
      rw [← ht] at hsy
      have HS := Lib.hid hs
      have HT := Lib.hid ht
      have HMK := Lib.hid hmk
      have lx := hvx.lst
      have ly := hvy.lst
      have hs1 : s.length ≤ 150 := by omega
      have ht1 : t.length ≤ 150 := by omega
      clear hs ht hmk hsx hsy hvx hvy
      go_enter Try.func4, Try.ntmps4
      go_wp2_with fail
      refine (refsort_l lx (by omega)).mono ?_
      rintro e w1 ⟨⟨r1, rfl, ho⟩, U1⟩
      rw [← HS.out] at ho
      have lx1 := lx.upd U1
      have ly1 := ly.upd U1
      have ls1 := ho.lst
      clear lx ly ho
      go_wp2_with fail
      refine (refsort_l ly1 (by omega)).mono ?_
      rintro e w2 ⟨⟨r2, rfl, ho⟩, U2⟩
      rw [← HT.out] at ho
      have lx2 := lx1.upd U2
      have ly2 := ly1.upd U2
      have ls2 := ls1.upd U2
      have lt2 := ho.lst
      have U3 := U1.trans U2
      clear lx1 ly1 ls1 ho U1 U2
      go_wp2_with fail
      refine (merge_l ls2 lt2 (by omega)).mono ?_
      rintro e w3 ⟨⟨r3, rfl, hm3⟩, U4⟩
      have hml : (mergeK key s t).length = s.length + t.length := mergeK_len s t
      have ls3 := ls2.upd U4
      have lt3 := lt2.upd U4
      go_wp2_with (at_builtin; refine wpList_append_lst rfl _ _ rfl w3.heap.size _ _ [] s rfl rfl (own_new w3 [] 0 rfl (by decide)) (ls3.upd ((Upd.refl [] w3).alloc _)) (by simp) (by simp; omega) ?_)
      intro v4 w4 ho4 hg4
      have U5 : Upd [] w3 w4 := ((Upd.refl [] w3).alloc _).grown hg4 (fun k hk => by cases hk; exact .inr (Nat.le_refl _))
      have lt4 := lt3.upd U5
      clear ls3 lt3 hg4
      go_wp2_with (at_builtin; refine wpList_append_lst rfl _ _ rfl w3.heap.size v4 _ s t rfl rfl ho4 lt4 U5.size (by omega) ?_)
      intro v5 w5 ho5 hg5
      have U6 : Upd [] w3 w5 := own_grown ho4 hg5 U5 (Nat.le_refl _)
      have l5 := ho5.lst
      have hm5 := hm3.kept U6 (by simp)
      have U7 := U4.trans U6
      clear ho4 lt4 ho5 hg5 U5 U6 U4 hm3
      go_wp2_with fail
      refine (refsort_l l5 (by rw [List.length_append]; omega)).mono ?_
      rintro e w6 ⟨⟨r6, rfl, ho⟩, U8⟩
      rw [← HMK.out] at ho
      have hm6 := hm5.kept U8 (by simp)
      have l6 := ho.lst
      have U9 := U7.trans U8
      clear l5 ho hm5 U7 U8
      go_wp2_with fail
      refine (equal_l hm6.lst l6 (by omega)).mono ?_
      rintro e w7 ⟨rfl, U10⟩
      rw [eqL_self]
      have hm7 := hm6.kept U10 (by simp)
      have U11 := U9.trans U10
      obtain ⟨n, hn⟩ : ∃ n, n = (mergeK key s t).length := ⟨_, rfl⟩
      have hnb : n ≤ 300 := by omega
      obtain ⟨pm, cm, rfl, _⟩ := hm7.view
      generalize mergeK key s t = M at hm7 hn
      rw [← hn] at hm7 ⊢
      have HN := Lib.hid hn
      clear l6 hm6 U9 U10 hn hml HMK
      go_wp2_with fail
      go_loopw [36] (fun u36 wr => ∃ (k : Nat) (zs : List Int), k ≤ n ∧ zs.length = n ∧ u36 = .int .i64 k ∧ Own wr w2.heap.size (.slice pm n cm) zs ∧ Upd [] w2 wr) (fun u36 _ => n - (intOf u36).toNat)
      case atStart => exact ⟨0, M, Nat.zero_le _, HN.out.symm, rfl, hm7, U11⟩
      case round =>
        obtain ⟨k, zs, hk, hz, rfl, hown, U12⟩ := hrel
        clear hm7 U11
        by_cases hkn : k < n
        · obtain ⟨g, cap, hgs, hgb⟩ := hown.first (by omega)
          simp only [Value.slice.injEq] at hgs
          obtain ⟨rfl, _, rfl⟩ := hgs
          have fr := hown.free k
          have hc := World.ownsRow.cellAt (own_at hown hz) k (by omega)
          obtain ⟨z0, hz0⟩ : ∃ z, zs[k]? = some z := ⟨zs[k]'(by omega), List.getElem?_eq_getElem _⟩
          rw [ints_at hz0] at hc
          have hst := hown.store 1 (show k < zs.length by omega)
          have U13 := U12.setCell_new (p := ⟨g, k, none⟩) hgb (.int .i64 1)
          have HOW := Lib.hid hst
          have HZ := Lib.hid hz
          have H13 := Lib.hid U13
          clear hown hst hz U13 hz0 U12
          go_wp2_with fail
          go_roundw
          case rel => exact ⟨k + 1, _, hkn, by rw [List.length_set]; exact HZ.out, by go_num, HOW.out, H13.out⟩
          case measure => simp [intOf]; omega
        · have lx4 := lx2.upd U12
          have ly4 := ly2.upd U12
          have ls4 := ls2.upd U12
          have lt4 := lt2.upd U12
          have U13 := U3.trans U12
          clear hown U12 lx2 ly2 ls2 lt2 U3
          go_wp2_with fail
          refine (refsort_l lx4 (by omega)).mono ?_
          rintro e w8 ⟨⟨r8, rfl, ho⟩, U14⟩
          rw [← HS.out] at ho
          have ly5 := ly4.upd U14
          have ls5 := ls4.upd U14
          have lt5 := lt4.upd U14
          have lr5 := ho.lst
          have U15 := U13.trans U14
          clear lx4 ly4 ls4 lt4 ho U13 U14
          go_wp2_with fail
          refine (equal_l ls5 lr5 (by omega)).mono ?_
          rintro e w9 ⟨rfl, U16⟩
          rw [eqL_self]
          have ly6 := ly5.upd U16
          have lt6 := lt5.upd U16
          have U17 := U15.trans U16
          clear ly5 ls5 lt5 lr5 U15 U16
          go_wp2_with fail
          refine (refsort_l ly6 (by omega)).mono ?_
          rintro e w10 ⟨⟨r10, rfl, ho⟩, U18⟩
          rw [← HT.out] at ho
          have lt7 := lt6.upd U18
          have lr7 := ho.lst
          have U19 := U17.trans U18
          clear ly6 lt6 ho U17 U18
          go_wp2_with fail
          refine (equal_l lt7 lr7 (by omega)).mono ?_
          rintro e w11 ⟨rfl, U20⟩
          rw [eqL_self]
          have U21 := U19.trans U20
          clear lt7 lr7 U19 U20
          go_wp2_with fail
          refine (awake_any _).mono ?_
          rintro e w12 ⟨rfl, U22⟩
          have U23 := U21.trans U22
          clear U21 U22
          go_wp2_with fail
          go_ret
          exact ⟨rfl, U23⟩

theorem okIn_take {ys : List Int} {a : Int} : okIn ys a = !(ys.any fun g => decide (key g = key a)) := by
  unfold okIn
  induction ys with
  | nil => rfl
  | cons y ys ih =>
    rw [List.all_cons, List.any_cons, ih]
    by_cases h : key y = key a <;> simp [h]

set_option maxHeartbeats 1000000 in
theorem less_all (v u : Value) (xs ys : List Int) (w : World) (hx : Lst w v xs) (hy : Lst w u ys) : Calls Try.prog 8 #[v, u] w fun e w' => e = .returned (.bool true) ∧ Upd [] w w' := by
  obtain ⟨p, c, rfl, hvx⟩ := hx
  obtain ⟨q, d, rfl, hvy⟩ := hy
  by_cases hl : 150 < xs.length
  · go_enter Try.func8, Try.ntmps8
    go_wp2_with (go_at_call 9; refine (awake_any _).mono ?_; rintro e w' ⟨rfl, U⟩)
    go_ret
    exact ⟨rfl, U⟩
  · by_cases hm : 150 < ys.length
    · go_enter Try.func8, Try.ntmps8
      go_wp2_with (go_at_call 9; refine (awake_any _).mono ?_; rintro e w' ⟨rfl, U⟩)
      go_ret
      exact ⟨rfl, U⟩
    · have hn1 : xs.length ≤ 150 := by omega
      have hn2 : ys.length ≤ 150 := by omega
      have hos := sortK_sorted (K := key) xs
      have hot := sortK_sorted (K := key) ys
      have hsx := sortK_len (K := key) xs
      have hsy := sortK_len (K := key) ys
      obtain ⟨s, hs⟩ : ∃ s, s = sortK key xs := ⟨_, rfl⟩
      obtain ⟨t, ht⟩ : ∃ t, t = sortK key ys := ⟨_, rfl⟩
      rw [← hs] at hsx hos
      rw [← ht] at hsy hot
      have HS := Lib.hid hs
      have HT := Lib.hid ht
      have HOS := Lib.hid hos
      have HOT := Lib.hid hot
      have lx := hvx.lst
      have ly := hvy.lst
      have hs1 : s.length ≤ 150 := by omega
      have ht1 : t.length ≤ 150 := by omega
      clear hs ht hos hot hsx hsy hvx hvy
      go_enter Try.func8, Try.ntmps8
      go_wp2_with fail
      refine (refsort_l lx (by omega)).mono ?_
      rintro e w1 ⟨⟨r1, rfl, ho⟩, U1⟩
      rw [← HS.out] at ho
      have lx1 := lx.upd U1
      have ly1 := ly.upd U1
      have ls1 := ho.lst
      clear lx ly ho
      go_wp2_with fail
      refine (refsort_l ly1 (by omega)).mono ?_
      rintro e w2 ⟨⟨r2, rfl, ho⟩, U2⟩
      rw [← HT.out] at ho
      have lx2 := lx1.upd U2
      have ls2 := ls1.upd U2
      have lt2 := ho.lst
      have U3 := U1.trans U2
      clear lx1 ly1 ls1 ho U1 U2
      obtain ⟨ps, cs, rfl, hvs⟩ := ls2
      obtain ⟨pt, ct, rfl, hvt⟩ := lt2
      have HVS := Lib.hid hvs
      have HVT := Lib.hid hvt
      clear hvs hvt
      go_wp2_with fail
      go_loopw [7, 28] (fun u7 u28 wr => ∃ j : Nat, j ≤ s.length ∧ u28 = .int .i64 j ∧ Own wr w2.heap.size u7 (lessOf t (s.take j)) ∧ Upd [] w2 wr) (fun _ u28 _ => s.length - (intOf u28).toNat)
      case atStart => exact ⟨0, Nat.zero_le _, rfl, Own.nil _ _, Upd.refl _ _⟩
      case round =>
        obtain ⟨j, hj, rfl, hown, U4⟩ := hrel
        have HO := Lib.hid hown
        have hol := lessOf_len t s j hj
        clear hown
        by_cases hjl : j < s.length
        · obtain ⟨a, ha⟩ : ∃ a, s[j]? = some a := ⟨s[j], List.getElem?_eq_getElem hjl⟩
          obtain ⟨bx, ox, rfl, _, hcx⟩ := (HVS.out.upd U4).cells j a ha
          have ca := hcx j a ha
          have HA := Lib.hid ha
          clear hcx ha
          obtain ⟨W1, hW1⟩ : ∃ W, W = wr := ⟨_, rfl⟩
          subst hW1
          go_wp2_with fail
          go_loopw [10, 34] (fun u10 u34 wq => ∃ i : Nat, i ≤ t.length ∧ u34 = .int .i64 i ∧ u10 = .bool ((t.take i).any fun g => decide (key g = key a)) ∧ wq = W1) (fun _ u34 _ => t.length - (intOf u34).toNat)
          case atStart => exact ⟨0, Nat.zero_le _, rfl, by simp, rfl⟩
          case round =>
            obtain ⟨i, hi, rfl, rfl, rfl⟩ := hrel
            by_cases hil : i < t.length
            · obtain ⟨g, hg⟩ : ∃ g, t[i]? = some g := ⟨t[i], List.getElem?_eq_getElem hil⟩
              obtain ⟨bg, og, rfl, _, hcg⟩ := (HVT.out.upd U4).cells i g hg
              have cg := hcg i g hg
              have hst : (t.take (i + 1)).any (fun g => decide (key g = key a)) = ((t.take i).any (fun g => decide (key g = key a)) || decide (key g = key a)) := by
                rw [List.take_add_one, hg, List.any_append]; simp
              have HST := Lib.hid hst
              clear hcg hst hg
              have hoe : (ord a g == 0) = decide (key g = key a) := by
                exact Bool.eq_iff_iff.2 (by simp only [beq_iff_eq, decide_eq_true_eq]; exact ord_eq.trans eq_comm)
              have HOE := Lib.hid hoe
              clear hoe
              generalize hb : ((t.take i).any fun g => decide (key g = key a)) = b
              rw [hb] at HST
              clear hb
              cases b with
              | true =>
                go_wp2_with fail
                go_roundw
                case rel => exact ⟨i + 1, hil, by go_num, by rw [HST.out]; rfl, trivial⟩
                case measure => simp [intOf]; omega
              | false =>
                go_wp2_with (go_at_call 11; refine (ord_any _ _ _).mono ?_; rintro e w' ⟨rfl, rfl⟩)
                go_roundw
                case rel => exact ⟨i + 1, hil, by go_num, by rw [HST.out, HOE.out]; simp, trivial⟩
                case measure => simp [intOf]; omega
            · have hie : i = t.length := by omega
              subst hie
              have hoka : okIn t a = !((t.take t.length).any fun g => decide (key g = key a)) := by rw [List.take_length]; exact okIn_take
              have HOK := Lib.hid hoka
              clear hoka
              generalize hb : ((t.take t.length).any fun g => decide (key g = key a)) = b
              rw [hb] at HOK
              clear hb
              cases b with
              | true =>
                go_wp2_with fail
                go_roundw
                case rel =>
                  refine ⟨j + 1, hjl, by go_num, ?_, U4⟩
                  rw [lessOf_succ HA.out, HOK.out]
                  simpa using HO.out
                case measure => simp [intOf]; omega
              | false =>
                go_wp2_with (at_builtin; refine wpList_append_int (u := a) rfl _ _ rfl w2 _ _ _ 1 (by rfl) (by rfl) (cell_new _ _ _) (HO.out.kept ((Upd.refl [] _).alloc _) (by simp)) (U4.alloc _) (by simp <;> omega) ?_)
                intro v5 w5 ho5 U5
                go_wp2_with fail
                go_roundw
                case rel =>
                  refine ⟨j + 1, hjl, by go_num, ?_, U5⟩
                  rw [lessOf_succ HA.out, HOK.out]
                  exact ho5
                case measure => simp [intOf]; omega
        · have hje : j = s.length := by omega
          subst hje
          have how := HO.out
          rw [List.take_length] at how hol
          have ls4 := (HVS.out.upd U4).lst
          have lt4 := (HVT.out.upd U4).lst
          have lx4 := lx2.upd U4
          have lw4 := how.lst
          have U5 := U3.trans U4
          clear how HO lx2 U3 U4 HVS HVT
          go_wp2_with fail
          refine (less_l ls4 lt4 (by omega) (by omega) HOS.out HOT.out).mono ?_
          rintro e w6 ⟨⟨r6, rfl, ho⟩, U6⟩
          have ls5 := ls4.upd U6
          have lx5 := lx4.upd U6
          have lw5 := lw4.upd U6
          have lr5 := ho.lst
          have U7 := U5.trans U6
          clear ls4 lt4 lx4 lw4 ho U5 U6
          go_wp2_with fail
          refine (equal_l lr5 lw5 (by omega)).mono ?_
          rintro e w7 ⟨rfl, U8⟩
          rw [eqL_self]
          have ls6 := ls5.upd U8
          have lx6 := lx5.upd U8
          have U9 := U7.trans U8
          clear ls5 lx5 lw5 lr5 U7 U8
          go_wp2_with fail
          refine (refsort_l lx6 (by omega)).mono ?_
          rintro e w8 ⟨⟨r8, rfl, ho⟩, U10⟩
          rw [← HS.out] at ho
          have ls7 := ls6.upd U10
          have lr7 := ho.lst
          have U11 := U9.trans U10
          clear ls6 lx6 ho U9 U10
          go_wp2_with fail
          refine (equal_l ls7 lr7 (by omega)).mono ?_
          rintro e w9 ⟨rfl, U12⟩
          rw [eqL_self]
          have U13 := U11.trans U12
          clear ls7 lr7 U11 U12
          go_wp2_with fail
          refine (awake_any _).mono ?_
          rintro e w10 ⟨rfl, U14⟩
          have U15 := U13.trans U14
          clear U13 U14
          go_wp2_with fail
          go_ret
          exact ⟨rfl, U15⟩

end Go.Proofs.Ytkfolfkgjpcmiaa
