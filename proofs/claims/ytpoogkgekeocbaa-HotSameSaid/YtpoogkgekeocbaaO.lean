/- The law HotSame: the walk. -/
import Derived.Test.YtpoogkgekeocbaaN
namespace Go.Proofs.Ytpoogkgekeocbaa
open Go.RowKit
attribute [local go_sem high] run_eq34 run_eq24

theorem wpList_append_lst {ops : Array Oper} {rest : List Oper} {o : Oper} {a : Act} {Q : Exit → Act → World → Prop} {w : World} (hgd : o.guard = none) (s x : Operand)
    (ho : o.op = .call { callee := .builtin .append, args := #[s, x], argTypes := #[22, 22] })
    (w0 : World) (v xv : Value) (xs ys : List Pt) (hs : a.eval s = v) (hx : a.eval x = xv) (hown : Own 24 w w0.heap.size v xs) (hl : Lst w xv ys) (hu : Upd [] w0 w) (hn : xs.length + ys.length ≤ 1048576)
    (h : ∀ v' w', Own 24 w' w0.heap.size v' (xs ++ ys) → Upd [] w0 w' → wpList Try.prog ops Q rest (a.put o.dst v') w') : wpList Try.prog ops Q (o :: rest) a w := by
  obtain ⟨p, c, rfl, hv⟩ := hl
  exact wpList_append_view ty22 hgd s x ho w0.heap.size v xs ys p c hs hx hown hv hu.size hn fun v' w' h1 h2 => h v' w' h1 (own_grown hown h2 hu (Nat.le_refl _))

theorem own_new0 (w : World) : Own 24 (w.alloc (.cells #[] 24)) w.heap.size (.slice (some ⟨w.heap.size, 0, none⟩) 0 0) ([] : List Pt) := own_new w [] 0 rfl (by decide)

set_option maxRecDepth 100000 in
set_option maxHeartbeats 2000000 in
theorem same_all (v : Value) (l : List Pt) (v' : Value) (m : List Pt) (w : World) (hx : Lst w v l) (hy : Lst w v' m) : Calls Try.prog 5 #[v, v'] w fun e w' => e = .returned (.bool true) ∧ Upd [] w w' := by
  obtain ⟨p, cp, rfl, hv⟩ := hx
  obtain ⟨p', cp', rfl, hv'⟩ := hy
  by_cases hl : 80 < l.length
  · clear hv hv'
    go_enter Try.func5, Try.ntmps5
    go_wp2_with (go_at_call 7; refine (awake_any _).mono ?_; rintro e w' ⟨rfl, U⟩)
    exact bodyPost_ret (v := .bool true) (by simp [results, Try.results5, go_sem]) rfl ⟨rfl, U⟩
  · by_cases hm : 80 < m.length
    · clear hv hv'
      go_enter Try.func5, Try.ntmps5
      go_wp2_with (go_at_call 7; refine (awake_any _).mono ?_; rintro e w' ⟨rfl, U⟩)
      exact bodyPost_ret (v := .bool true) (by simp [results, Try.results5, go_sem]) rfl ⟨rfl, U⟩
    · have hn : l.length ≤ 80 := by omega
      have hk : m.length ≤ 80 := by omega
      have HV := Lib.hid hv.lst
      have HW := Lib.hid hv'.lst
      clear hv hv'
      go_enter Try.func5, Try.ntmps5
      go_wp2_with fail
      refine (refs_l HV.out (by omega)).mono ?_
      rintro e w1 ⟨⟨v1, rfl, ho1⟩, U1⟩
      have HV1 := Lib.hid (HV.out.upd U1)
      have HW1 := Lib.hid (HW.out.upd U1)
      have HU1 := Lib.hid U1
      have HO1 := Lib.hid ho1.lst
      clear HV HW U1 ho1
      go_wp2_with fail
      refine (refs_l HW1.out (by omega)).mono ?_
      rintro e w2 ⟨⟨v2, rfl, ho2⟩, U2⟩
      have HV2 := Lib.hid (HV1.out.upd U2)
      have HW2 := Lib.hid (HW1.out.upd U2)
      have HO2 := Lib.hid (HO1.out.upd U2)
      have HP2 := Lib.hid ho2.lst
      have HU2 := Lib.hid (HU1.out.trans U2)
      clear HV1 HW1 HU1 HO1 U2 ho2
      cases hb : l.all rightP with
      | false =>
        clear hb
        go_wp2_with fail
        refine (awake_any _).mono ?_
        rintro e w9 ⟨rfl, U9⟩
        have HU9 := Lib.hid (HU2.out.trans U9)
        clear U9
        go_wp2_with fail
        exact bodyPost_ret (v := .bool true) (by simp [results, Try.results5, go_sem]) rfl ⟨rfl, HU9.out⟩
      | true =>
        cases hc : m.all rightP with
        | false =>
          clear hb hc
          go_wp2_with fail
          refine (awake_any _).mono ?_
          rintro e w9 ⟨rfl, U9⟩
          have HU9 := Lib.hid (HU2.out.trans U9)
          clear U9
          go_wp2_with fail
          exact bodyPost_ret (v := .bool true) (by simp [results, Try.results5, go_sem]) rfl ⟨rfl, HU9.out⟩
        | true =>
          have HB := Lib.hid hb
          have HC := Lib.hid hc
          clear hb hc
          go_wp2_with fail
          refine (new_l HV2.out (by omega) HB.out).mono ?_
          rintro e w3 ⟨⟨s, qs, rfl, hs, hr3⟩, U3⟩
          have HS3 := Lib.hid hs
          have HV3 := Lib.hid (HV2.out.upd U3)
          have HW3 := Lib.hid (HW2.out.upd U3)
          have HO3 := Lib.hid (HO2.out.upd U3)
          have HP3 := Lib.hid (HP2.out.upd U3)
          have HU3 := Lib.hid (HU2.out.trans U3)
          clear HV2 HW2 HO2 HP2 HU2 U3 hs hr3
          go_wp2_with fail
          refine (new_l HW3.out (by omega) HC.out).mono ?_
          rintro e w4 ⟨⟨t, rs, rfl, ht, hr4⟩, U4⟩
          have HT4 := Lib.hid ht
          have HS4 := Lib.hid (HS3.out.upd U4)
          have HV4 := Lib.hid (HV3.out.upd U4)
          have HO4 := Lib.hid (HO3.out.upd U4)
          have HP4 := Lib.hid (HP3.out.upd U4)
          have HU4 := Lib.hid (HU3.out.trans U4)
          clear HV3 HW3 HO3 HP3 HU3 HS3 U4 ht hr4
          go_wp2_with (at_builtin; go_loud (refine wpList_append_lst rfl _ _ rfl w4 _ _ [] l rfl rfl (own_new0 w4) (HV4.out.upd ((Upd.refl [] w4).alloc _)) ((Upd.refl [] w4).alloc _) (by simp; omega) ?_))
          intro v5 w5 ho5 U5
          have HV5 := Lib.hid (HV4.out.upd U5)
          have HO5 := Lib.hid ho5
          have HU5 := Lib.hid U5
          clear ho5 U5 HV4
          go_wp2_with (at_builtin; go_loud (refine wpList_append_lst rfl _ _ rfl w4 _ _ l l rfl rfl HO5.out HV5.out HU5.out (by omega) ?_))
          intro v6 w6 ho6 U6
          have HO6 := Lib.hid ho6.lst
          have HS6 := Lib.hid (HS4.out.upd U6)
          have HT6 := Lib.hid (HT4.out.upd U6)
          have HX6 := Lib.hid (HO4.out.upd U6)
          have HY6 := Lib.hid (HP4.out.upd U6)
          have HU6 := Lib.hid (HU4.out.trans U6)
          clear ho6 U6 HO5 HV5 HU5 HS4 HT4 HO4 HP4 HU4
          go_wp2_with fail
          refine (new_l HO6.out (by simp; omega) (by rw [List.all_append, HB.out]; rfl)).mono ?_
          rintro e w7 ⟨⟨u, us, rfl, hu, hr7⟩, U7⟩
          rw [uniq_eq (ys := l) (fun x => by simp)] at hu
          have HK7 := Lib.hid hu
          have HS7 := Lib.hid (HS6.out.upd U7)
          have HT7 := Lib.hid (HT6.out.upd U7)
          have HX7 := Lib.hid (HX6.out.upd U7)
          have HY7 := Lib.hid (HY6.out.upd U7)
          have HU7 := Lib.hid (HU6.out.trans U7)
          clear hu hr7 U7 HO6 HS6 HT6 HX6 HY6 HU6
          go_wp2_with fail
          refine (sorted_l HX7.out (by omega)).mono ?_
          rintro e w8 ⟨⟨v8, rfl, ho8⟩, U8⟩
          have HX8 := Lib.hid ho8.lst
          have HK8 := Lib.hid (HK7.out.upd U8)
          have HS8 := Lib.hid (HS7.out.upd U8)
          have HT8 := Lib.hid (HT7.out.upd U8)
          have HY8 := Lib.hid (HY7.out.upd U8)
          have HU8 := Lib.hid (HU7.out.trans U8)
          clear ho8 U8 HK7 HS7 HT7 HX7 HY7 HU7
          go_wp2_with fail
          refine (sorted_l HY8.out (by omega)).mono ?_
          rintro e w9 ⟨⟨v9, rfl, ho9⟩, U9⟩
          have HX9 := Lib.hid (HX8.out.upd U9)
          have HY9 := Lib.hid ho9.lst
          have HK9 := Lib.hid (HK8.out.upd U9)
          have HS9 := Lib.hid (HS8.out.upd U9)
          have HT9 := Lib.hid (HT8.out.upd U9)
          have HU9 := Lib.hid (HU8.out.trans U9)
          clear ho9 U9 HK8 HS8 HT8 HX8 HY8 HU8
          have hlx := uniq_len false l
          have hly := uniq_len false m
          generalize uniq false l = xs at HX9 HK9 HS9 hlx ⊢
          generalize uniq false m = ys at HY9 HT9 hly ⊢
          obtain ⟨xp, xc, rfl, hvx⟩ := HX9.out
          obtain ⟨yp, yc, rfl, hvy⟩ := HY9.out
          have VX := Lib.hid hvx
          have VY := Lib.hid hvy
          obtain ⟨b0, hb0⟩ : ∃ b0, ((xs.length : Int) == (ys.length : Int)) = b0 := ⟨_, rfl⟩
          have HB0 := Lib.hid hb0
          clear hvx hvy
          go_wp2_with fail
          clear hb0
          go_loopw [15, 95] (fun u15 u95 wr => ∃ (j : Nat) (b : Bool), j ≤ xs.length ∧ u95 = .int .i64 j ∧ u15 = .bool b ∧ (b = true → xs.length = ys.length ∧ xs.take j = ys.take j) ∧ (b = false → ¬ xs = ys) ∧ Upd [] w9 wr) (fun _ u95 _ => xs.length - (intOf u95).toNat)
          case atStart =>
            refine ⟨0, b0, Nat.zero_le _, rfl, rfl, fun e => ⟨?_, by simp⟩, fun e e2 => ?_, Upd.refl _ _⟩
            · have := HB0.out; rw [e] at this; have := eq_of_beq this; omega
            · have := HB0.out; rw [e, e2] at this; simp at this
          case round =>
            obtain ⟨j, b, hj, rfl, rfl, h1, h2, U10⟩ := hrel
            have H1 := Lib.hid h1
            have H2 := Lib.hid h2
            clear h1 h2
            by_cases hjl : j < xs.length
            · cases b with
              | true =>
                obtain ⟨hxy, htk⟩ := H1.out rfl
                have z1 : (j : Int) < (ys.length : Int) := by omega
                obtain ⟨⟨a1, a2⟩, ha⟩ : ∃ a, xs[j]? = some a := ⟨xs[j], List.getElem?_eq_getElem hjl⟩
                obtain ⟨⟨b1, b2⟩, hb2⟩ : ∃ a, ys[j]? = some a := ⟨ys[j]'(by omega), List.getElem?_eq_getElem _⟩
                obtain ⟨bx, ox, rfl, lx, hcx⟩ := (VX.out.upd U10).cells j _ ha
                obtain ⟨by', oy, rfl, ly, hcy⟩ := (VY.out.upd U10).cells j _ hb2
                obtain ⟨ca, ca'⟩ := hcx j _ ha
                obtain ⟨cb, cb'⟩ := hcy j _ hb2
                change wr.cell? _ = some (.int .i64 a1) at ca
                change wr.cell? _ = some (.int .i64 a2) at ca'
                change wr.cell? _ = some (.int .i64 b1) at cb
                change wr.cell? _ = some (.int .i64 b2) at cb'
                have HA := Lib.hid ha
                have HB' := Lib.hid hb2
                have HT := Lib.hid (And.intro hxy htk)
                clear hcx hcy ha hb2 htk hxy
                cases he : eqP a1 a2 b1 b2 with
                | true =>
                  have HE := Lib.hid (eqP_iff.1 he)
                  go_wp2_with fail
                  go_quiet (fail)
                  go_wp2_with fail
                  go_roundw
                  case rel => exact ⟨j + 1, true, by omega, by go_num, rfl, fun _ => ⟨HT.out.1, take_next HT.out.2 HA.out (HE.out ▸ HB'.out)⟩, fun e => (by cases e), U10.drewN _⟩
                  case measure => simp [intOf]; omega
                | false =>
                  have HE := Lib.hid he
                  go_wp2_with fail
                  go_quiet (fail)
                  go_wp2_with fail
                  go_roundw
                  case rel =>
                    refine ⟨j + 1, false, by omega, by go_num, rfl, fun e => (by cases e), fun _ e => ?_, U10.drewN _⟩
                    have h1 := HA.out
                    rw [e, HB'.out] at h1
                    have h4 := (eqP_iff (a := a1) (b := a2) (c := b1) (d := b2)).2 (Option.some.inj h1).symm
                    have h3 := HE.out
                    rw [h4] at h3
                    cases h3
                  case measure => simp [intOf]; omega
              | false =>
                go_wp2_with fail
                go_quiet (fail)
                go_wp2_with fail
                go_roundw
                case rel => exact ⟨j + 1, false, by omega, by go_num, rfl, fun e => (by cases e), fun _ => H2.out trivial, U10.drewN _⟩
                case measure => simp [intOf]; omega
            · have hje : j = xs.length := by omega
              subst hje
              have hbe : b = decide (xs = ys) := by
                cases b with
                | false => exact (decide_eq_false (H2.out rfl)).symm
                | true =>
                  obtain ⟨h3, h4⟩ := H1.out rfl
                  refine (decide_eq_true ?_).symm
                  rw [List.take_length] at h4
                  rw [h3, List.take_length] at h4
                  exact h4
              have hbe2 : decide (ys = xs) = b := by rw [hbe]; exact decide_eq_decide.2 eq_comm
              have hbb : (b == b) = true := by simp
              have HE1 := Lib.hid hbe.symm
              have HE2 := Lib.hid hbe2
              have HK10 := Lib.hid (HK9.out.upd U10)
              have HS10 := Lib.hid (HS9.out.upd U10)
              have HT10 := Lib.hid (HT9.out.upd U10)
              have HU10 := Lib.hid (HU9.out.trans U10)
              clear hbe hbe2 H1 H2 hjl U10 HK9 HS9 HT9 HU9 VX VY HX9 HY9
              go_wp2_with fail
              refine (equal_any s t _ _ _ _ _ _ _ HS10.out HT10.out (by omega) (by omega)).mono ?_
              rintro e w11 ⟨rfl, U11⟩
              rw [HE1.out]
              have HK11 := Lib.hid (HK10.out.upd U11)
              have HS11 := Lib.hid (HS10.out.upd U11)
              have HT11 := Lib.hid (HT10.out.upd U11)
              have HU11 := Lib.hid (HU10.out.trans U11)
              clear U11 HK10 HS10 HT10 HU10
              go_wp2_with fail
              refine (equal_any t s _ _ _ _ _ _ _ HT11.out HS11.out (by omega) (by omega)).mono ?_
              rintro e w12 ⟨rfl, U12⟩
              rw [HE2.out]
              have HK12 := Lib.hid (HK11.out.upd U12)
              have HS12 := Lib.hid (HS11.out.upd U12)
              have HU12 := Lib.hid (HU11.out.trans U12)
              clear U12 HK11 HS11 HT11 HU11
              go_wp2_with fail
              refine (equal_any s u _ _ _ _ _ _ _ HS12.out HK12.out (by omega) (by omega)).mono ?_
              rintro e w13 ⟨rfl, U13⟩
              rw [show decide (xs = xs) = true from decide_eq_true rfl]
              have HU13 := Lib.hid (HU12.out.trans U13)
              clear U13 HK12 HS12 HU12
              go_wp2_with fail
              refine (awake_any _).mono ?_
              rintro e w14 ⟨rfl, U14⟩
              have HU14 := Lib.hid (HU13.out.trans U14)
              clear U14 HU13
              go_wp2_with fail
              exact bodyPost_ret (v := .bool true) (by simp [results, Try.results5, go_sem]) rfl ⟨rfl, HU14.out⟩

end Go.Proofs.Ytpoogkgekeocbaa
