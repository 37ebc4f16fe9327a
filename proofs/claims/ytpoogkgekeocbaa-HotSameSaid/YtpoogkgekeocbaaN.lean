/- The law HotSets: the walk. -/
import Derived.Test.YtpoogkgekeocbaaM
namespace Go.Proofs.Ytpoogkgekeocbaa
open Go.RowKit
attribute [local go_sem high] run_eq34 run_eq24

theorem isAt_true {xs : List Pt} {v : Pt} {n : Nat} (h : xs[n]? = some v) : isAt xs v n = true := by unfold isAt; rw [h]; exact decide_eq_true rfl
theorem isAt_false {xs : List Pt} {v : Pt} {n : Nat} (h : ∀ i : Nat, xs[i]? ≠ some v) : isAt xs v n = false := by
  unfold isAt
  cases e : xs[n]? with
  | none => rfl
  | some a => exact decide_eq_false fun e2 => h n (by rw [e, e2])

set_option maxRecDepth 100000 in
set_option maxHeartbeats 2000000 in
theorem sets_all (v : Value) (l : List Pt) (c : Pt) (n : Int) (w : World) (hx : Lst w v l) : Calls Try.prog 3 #[v, pv c, .int .i64 n] w fun e w' => e = .returned (.bool true) ∧ Upd [] w w' := by
  obtain ⟨p, cp, rfl, hv⟩ := hx
  obtain ⟨c1, c2⟩ := c
  show Calls Try.prog 3 #[.slice p l.length cp, .agg #[.int .i64 c1, .int .i64 c2], .int .i64 n] w _
  by_cases hl : 120 < l.length
  · clear hv
    go_enter Try.func3, Try.ntmps3
    go_wp2_with (go_at_call 7; refine (awake_any _).mono ?_; rintro e w' ⟨rfl, U⟩)
    exact bodyPost_ret (v := .bool true) (by simp [results, Try.results3, go_sem]) rfl ⟨rfl, ((Upd.refl [] w).alloc _).trans U⟩
  · have hn : l.length ≤ 120 := by omega
    have r0 := IsRow.new w [.int .i64 c1, .int .i64 c2] 24
    have U0 : Upd [] w (w.alloc (.cells #[.int .i64 c1, .int .i64 c2] 24)) := (Upd.refl [] w).alloc _
    obtain ⟨q, hq⟩ : ∃ z, z = w.heap.size := ⟨_, rfl⟩
    rw [← hq] at r0
    have HR := Lib.hid r0
    have HU := Lib.hid U0
    have HV := Lib.hid (hv.upd U0).lst
    have HQ := Lib.hid hq
    clear r0 U0 hv hq
    cases hb : l.all rightP with
    | false =>
      have HB := Lib.hid hb
      clear hb
      go_enter Try.func3, Try.ntmps3
      go_wp2_with fail
      rw [← HQ.out]
      generalize w.alloc (.cells #[.int .i64 c1, .int .i64 c2] 24) = w0 at HU HV HR ⊢
      refine (newbad_l HV.out (by omega) HB.out).mono ?_
      rintro e w1 ⟨rfl, U1⟩
      have HV1 := Lib.hid (HV.out.upd U1)
      have HU1 := Lib.hid (HU.out.trans U1)
      clear HV HU U1
      go_wp2_with fail
      refine (refs_l HV1.out (by omega)).mono ?_
      rintro e w2 ⟨⟨v2, rfl, _⟩, U2⟩
      rw [HB.out]
      have HU2 := Lib.hid (HU1.out.trans U2)
      clear HV1 HU1 U2
      go_wp2_with fail
      refine (awake_any _).mono ?_
      rintro e w3 ⟨rfl, U3⟩
      have HU3 := Lib.hid (HU2.out.trans U3)
      clear U3
      go_wp2_with fail
      exact bodyPost_ret (v := .bool true) (by simp [results, Try.results3, go_sem]) rfl ⟨rfl, HU3.out⟩
    | true =>
      have HB := Lib.hid hb
      clear hb
      go_enter Try.func3, Try.ntmps3
      go_wp2_with fail
      rw [← HQ.out]
      generalize w.alloc (.cells #[.int .i64 c1, .int .i64 c2] 24) = w0 at HU HV HR ⊢
      refine (new_l HV.out (by omega) HB.out).mono ?_
      rintro e w1 ⟨⟨s, qs, rfl, hs, _⟩, U1⟩
      have HS1 := Lib.hid hs
      have HV1 := Lib.hid (HV.out.upd U1)
      have HU1 := Lib.hid (HU.out.trans U1)
      have HR1 := Lib.hid (HR.out.upd U1 (by simp))
      clear HV HU U1 HR hs
      go_wp2_with fail
      refine (refs_l HV1.out (by omega)).mono ?_
      rintro e w2 ⟨⟨v2, rfl, ho2⟩, U2⟩
      rw [HB.out]
      have HO2 := Lib.hid ho2.lst
      have HS2 := Lib.hid (HS1.out.upd U2)
      have HU2 := Lib.hid (HU1.out.trans U2)
      have HR2 := Lib.hid (HR1.out.upd U2 (by simp))
      clear HV1 HU1 U2 HR1 HS1 ho2
      go_wp2_with fail
      refine (sorted_l HO2.out (by omega)).mono ?_
      rintro e w3 ⟨⟨v3, rfl, ho3⟩, U3⟩
      have hul := uniq_len false l
      obtain ⟨up, uc, rfl, hv3⟩ := ho3.view
      have HS3 := Lib.hid (HS2.out.upd U3)
      have HU3 := Lib.hid (HU2.out.trans U3)
      have HR3 := Lib.hid (HR2.out.upd U3 (by simp))
      have hst := uniq_strict false l
      generalize uniq false l = xs at hul hv3 HS3 hst ⊢
      have HV3 := Lib.hid hv3
      have HST := Lib.hid hst
      clear HO2 HU2 U3 HR2 HS2 ho3 hv3 hst
      go_wp2_with fail
      go_loopw [11, 53] (fun u11 u53 wr => ∃ (j : Nat) (z : Int), j ≤ xs.length ∧ u53 = .int .i64 j ∧ u11 = .int .i64 z ∧ ((z = -1 ∧ ∀ i : Nat, i < j → xs[i]? ≠ some (c1, c2)) ∨ ∃ i : Nat, z = i ∧ xs[i]? = some (c1, c2)) ∧ Upd [] w3 wr) (fun _ u53 _ => xs.length - (intOf u53).toNat)
      case atStart => exact ⟨0, -1, Nat.zero_le _, rfl, rfl, .inl ⟨rfl, fun i hi => absurd hi (by omega)⟩, Upd.refl _ _⟩
      case round =>
        obtain ⟨j, z, hj, rfl, rfl, hz, U4⟩ := hrel
        have HZ := Lib.hid hz
        have HR4 := Lib.hid (HR3.out.upd U4 (by simp))
        by_cases hjl : j < xs.length
        · obtain ⟨⟨a1, a2⟩, ha⟩ : ∃ a, xs[j]? = some a := ⟨xs[j], List.getElem?_eq_getElem hjl⟩
          obtain ⟨bx, ox, rfl, _, hcx⟩ := (HV3.out.upd U4).cells j _ ha
          obtain ⟨ca, ca'⟩ := hcx j _ ha
          change wr.cell? _ = some (.int .i64 a1) at ca
          change wr.cell? _ = some (.int .i64 a2) at ca'
          have c0 : wr.cell? ⟨q, 0, none⟩ = some (.int .i64 c1) := HR4.out.cell 0
          have c0' : wr.cell? ⟨q, 1, none⟩ = some (.int .i64 c2) := HR4.out.cell 1
          have HA := Lib.hid ha
          have hql := HR4.out.lt
          clear hz hcx ha
          cases he : eqP a1 a2 c1 c2 with
          | true =>
            have HE := Lib.hid (eqP_iff.1 he)
            go_wp2_with fail
            go_roundw
            case rel => exact ⟨j + 1, j, by omega, by go_num, rfl, .inr ⟨j, rfl, HE.out ▸ HA.out⟩, U4.alloc _⟩
            case measure => simp [intOf]; omega
          | false =>
            have hne : ¬ (a1, a2) = (c1, c2) := fun e => by rw [eqP_iff.2 e] at he; cases he
            have HE := Lib.hid hne
            clear hne
            go_wp2_with fail
            go_roundw
            case rel =>
              refine ⟨j + 1, z, by omega, by go_num, rfl, ?_, U4.alloc _⟩
              rcases HZ.out with ⟨h1, h2⟩ | h1
              · refine .inl ⟨h1, fun i hi => ?_⟩
                by_cases hij : i = j
                · subst hij; rw [HA.out]; exact fun e => HE.out (Option.some.inj e)
                · exact h2 i (by omega)
              · exact .inr h1
            case measure => simp [intOf]; omega
        · have hje : j = xs.length := by omega
          subst hje
          have hfin : (z = -1 ∧ ∀ i : Nat, xs[i]? ≠ some (c1, c2)) ∨ ∃ i : Nat, z = i ∧ xs[i]? = some (c1, c2) := by
            rcases HZ.out with ⟨h1, h2⟩ | h1
            · exact .inl ⟨h1, fun i e => h2 i (List.getElem?_eq_some_iff.1 e).1 e⟩
            · exact .inr h1
          have HS4 := Lib.hid (HS3.out.upd U4)
          have HU4 := Lib.hid (HU3.out.trans U4)
          have HV4 := Lib.hid (HV3.out.upd U4)
          have c0 : wr.cell? ⟨q, 0, none⟩ = some (.int .i64 c1) := HR4.out.cell 0
          have c0' : wr.cell? ⟨q, 1, none⟩ = some (.int .i64 c2) := HR4.out.cell 1
          have hql := HR4.out.lt
          clear hz HZ HU3 HV3 HR3 HS3 U4 hjl
          rcases hfin with ⟨rfl, hno⟩ | ⟨i, rfl, hi⟩
          · have HNO := Lib.hid hno
            clear hno
            go_wp2_with fail
            refine (number_any s _ _ _ (c1, c2) _ HS4.out (by omega) HST.out.sorted).mono ?_
            rintro e w5 ⟨⟨k, rfl, hat⟩, U5⟩
            rw [isAt_false HNO.out, if_neg (by decide)]
            have HS5 := Lib.hid (HS4.out.upd U5)
            have HU5 := Lib.hid (HU4.out.trans U5)
            have HV5 := Lib.hid (HV4.out.upd U5)
            clear HS4 HU4 HV4 U5 hat c0 c0' HR4
            go_wp2_with fail
            refine (len_any s _ _ _ _ HS5.out).mono ?_
            rintro e w6 ⟨rfl, U6⟩
            have HS6 := Lib.hid (HS5.out.upd U6)
            have HU6 := Lib.hid (HU5.out.trans U6)
            have HV6 := Lib.hid (HV5.out.upd U6)
            clear HS5 HU5 HV5 U6
            go_wp2_with fail
            refine (at_any s _ _ _ n _ HS6.out (by omega)).mono ?_
            rintro e w7 ⟨h7, U7⟩
            have HU7 := Lib.hid (HU6.out.trans U7)
            have HV7 := Lib.hid (HV6.out.upd U7)
            clear HS6 HU6 HV6 U7
            have z0 : eqP 0 0 0 0 = true := eqP_refl 0 0
            rcases h7 with ⟨rfl, hnn⟩ | ⟨i', ⟨a1, a2⟩, rfl, ha, rfl⟩
            · rw [show pv (0, 0) = Value.agg #[.int .i64 0, .int .i64 0] from rfl]
              by_cases hn0 : n < 0
              · have d1 : decide (n < 0) = true := decide_eq_true hn0
                clear hnn
                go_wp2_with fail
                refine (awake_any _).mono ?_
                rintro e w9 ⟨rfl, U9⟩
                have HU9 := Lib.hid ((HU7.out.alloc (.cells #[.int .i64 0, .int .i64 0] 24)).trans U9)
                clear U9
                go_wp2_with fail
                exact bodyPost_ret (v := .bool true) (by simp [results, Try.results3, go_sem]) rfl ⟨rfl, HU9.out⟩
              · have d1 : decide (n < 0) = false := decide_eq_false hn0
                have hnn2 : (xs.length : Int) ≤ n := by omega
                have d2 : decide ((xs.length : Int) ≤ n) = true := decide_eq_true hnn2
                clear hnn
                go_wp2_with fail
                refine (awake_any _).mono ?_
                rintro e w9 ⟨rfl, U9⟩
                have HU9 := Lib.hid ((HU7.out.alloc (.cells #[.int .i64 0, .int .i64 0] 24)).trans U9)
                clear U9
                go_wp2_with fail
                exact bodyPost_ret (v := .bool true) (by simp [results, Try.results3, go_sem]) rfl ⟨rfl, HU9.out⟩
            · have hi' : i' < xs.length := (List.getElem?_eq_some_iff.1 ha).1
              rw [show pv (a1, a2) = Value.agg #[.int .i64 a1, .int .i64 a2] from rfl]
              have d1 : decide ((i' : Int) < 0) = false := decide_eq_false (by omega)
              have d2 : decide ((xs.length : Int) ≤ (i' : Int)) = false := decide_eq_false (by omega)
              have z2 : (i' : Int) < (xs.length : Int) := by omega
              have z3 : (0 : Int) ≤ (i' : Int) := by omega
              have r9 := IsRow.new w7 [.int .i64 a1, .int .i64 a2] 24
              obtain ⟨q9, hq9⟩ : ∃ z, z = w7.heap.size := ⟨_, rfl⟩
              rw [← hq9] at r9
              have HR9 := Lib.hid r9
              have HQ9 := Lib.hid hq9
              have HA := Lib.hid ha
              have HU8 := Lib.hid (HU7.out.alloc (.cells #[.int .i64 a1, .int .i64 a2] 24))
              have HV8 := Lib.hid (HV7.out.upd ((Upd.refl [] w7).alloc (.cells #[.int .i64 a1, .int .i64 a2] 24)))
              clear r9 hq9 ha HU7 HV7
              go_wp2_with fail
              rw [← HQ9.out]
              generalize w7.alloc (.cells #[.int .i64 a1, .int .i64 a2] 24) = w8 at HR9 HU8 HV8 ⊢
              obtain ⟨bx, ox, rfl, hbx, hcx⟩ := HV8.out.cells i' _ HA.out
              obtain ⟨ca, ca'⟩ := hcx i' _ HA.out
              change w8.cell? _ = some (.int .i64 a1) at ca
              change w8.cell? _ = some (.int .i64 a2) at ca'
              have e0 : w8.cell? ⟨q9, 0, none⟩ = some (.int .i64 a1) := HR9.out.cell 0
              have e1 : w8.cell? ⟨q9, 1, none⟩ = some (.int .i64 a2) := HR9.out.cell 1
              have z4 : eqP a1 a2 a1 a2 = true := eqP_refl a1 a2
              have hq9l := HR9.out.lt
              clear hcx
              go_region_held3 (fun w' => w'.cell? ⟨q9, 0, none⟩ = some (.int .i64 a1) ∧ w'.cell? ⟨q9, 1, none⟩ = some (.int .i64 a2) ∧ w'.cell? ⟨bx, ox + i' * 2, none⟩ = some (.int .i64 a1) ∧ w'.cell? ⟨bx, ox + i' * 2 + 1, none⟩ = some (.int .i64 a2)) (first | exact ⟨e0, e1, ca, ca'⟩ | exact S9)
                (first | (go_at_call 7; refine (awake_any _).mono ?_; rintro e w9 ⟨rfl, U9⟩; have S9 : w9.cell? ⟨q9, 0, none⟩ = some (.int .i64 a1) ∧ w9.cell? ⟨q9, 1, none⟩ = some (.int .i64 a2) ∧ w9.cell? ⟨bx, ox + i' * 2, none⟩ = some (.int .i64 a1) ∧ w9.cell? ⟨bx, ox + i' * 2 + 1, none⟩ = some (.int .i64 a2) := ⟨(U9.cell (p := ⟨q9, 0, none⟩) hq9l (by simp)).trans e0, (U9.cell (p := ⟨q9, 1, none⟩) hq9l (by simp)).trans e1, (U9.cell (p := ⟨bx, ox + i' * 2, none⟩) hbx (by simp)).trans ca, (U9.cell (p := ⟨bx, ox + i' * 2 + 1, none⟩) hbx (by simp)).trans ca'⟩))
              have HU9 := Lib.hid (HU8.out.drew.trans U9)
              clear U9 S9
              go_wp2_with fail
              exact bodyPost_ret (v := .bool true) (by simp [results, Try.results3, go_sem]) rfl ⟨rfl, HU9.out⟩
          · have HI := Lib.hid hi
            clear hi
            go_wp2_with fail
            refine (number_any s _ _ _ (c1, c2) _ HS4.out (by omega) HST.out.sorted).mono ?_
            rintro e w5 ⟨⟨k, rfl, hat⟩, U5⟩
            obtain rfl : k = i := hat.unique (strict_at HST.out HI.out)
            rw [isAt_true HI.out, if_pos rfl]
            have HS5 := Lib.hid (HS4.out.upd U5)
            have HU5 := Lib.hid (HU4.out.trans U5)
            have HV5 := Lib.hid (HV4.out.upd U5)
            clear HS4 HU4 HV4 U5 hat c0 c0' HR4
            go_wp2_with fail
            refine (len_any s _ _ _ _ HS5.out).mono ?_
            rintro e w6 ⟨rfl, U6⟩
            have HS6 := Lib.hid (HS5.out.upd U6)
            have HU6 := Lib.hid (HU5.out.trans U6)
            have HV6 := Lib.hid (HV5.out.upd U6)
            clear HS5 HU5 HV5 U6
            go_wp2_with fail
            refine (at_any s _ _ _ n _ HS6.out (by omega)).mono ?_
            rintro e w7 ⟨h7, U7⟩
            have HU7 := Lib.hid (HU6.out.trans U7)
            have HV7 := Lib.hid (HV6.out.upd U7)
            clear HS6 HU6 HV6 U7
            have z0 : eqP 0 0 0 0 = true := eqP_refl 0 0
            rcases h7 with ⟨rfl, hnn⟩ | ⟨i', ⟨a1, a2⟩, rfl, ha, rfl⟩
            · rw [show pv (0, 0) = Value.agg #[.int .i64 0, .int .i64 0] from rfl]
              by_cases hn0 : n < 0
              · have d1 : decide (n < 0) = true := decide_eq_true hn0
                clear hnn
                go_wp2_with fail
                refine (awake_any _).mono ?_
                rintro e w9 ⟨rfl, U9⟩
                have HU9 := Lib.hid ((HU7.out.alloc (.cells #[.int .i64 0, .int .i64 0] 24)).trans U9)
                clear U9
                go_wp2_with fail
                exact bodyPost_ret (v := .bool true) (by simp [results, Try.results3, go_sem]) rfl ⟨rfl, HU9.out⟩
              · have d1 : decide (n < 0) = false := decide_eq_false hn0
                have hnn2 : (xs.length : Int) ≤ n := by omega
                have d2 : decide ((xs.length : Int) ≤ n) = true := decide_eq_true hnn2
                clear hnn
                go_wp2_with fail
                refine (awake_any _).mono ?_
                rintro e w9 ⟨rfl, U9⟩
                have HU9 := Lib.hid ((HU7.out.alloc (.cells #[.int .i64 0, .int .i64 0] 24)).trans U9)
                clear U9
                go_wp2_with fail
                exact bodyPost_ret (v := .bool true) (by simp [results, Try.results3, go_sem]) rfl ⟨rfl, HU9.out⟩
            · have hi' : i' < xs.length := (List.getElem?_eq_some_iff.1 ha).1
              rw [show pv (a1, a2) = Value.agg #[.int .i64 a1, .int .i64 a2] from rfl]
              have d1 : decide ((i' : Int) < 0) = false := decide_eq_false (by omega)
              have d2 : decide ((xs.length : Int) ≤ (i' : Int)) = false := decide_eq_false (by omega)
              have z2 : (i' : Int) < (xs.length : Int) := by omega
              have z3 : (0 : Int) ≤ (i' : Int) := by omega
              have r9 := IsRow.new w7 [.int .i64 a1, .int .i64 a2] 24
              obtain ⟨q9, hq9⟩ : ∃ z, z = w7.heap.size := ⟨_, rfl⟩
              rw [← hq9] at r9
              have HR9 := Lib.hid r9
              have HQ9 := Lib.hid hq9
              have HA := Lib.hid ha
              have HU8 := Lib.hid (HU7.out.alloc (.cells #[.int .i64 a1, .int .i64 a2] 24))
              have HV8 := Lib.hid (HV7.out.upd ((Upd.refl [] w7).alloc (.cells #[.int .i64 a1, .int .i64 a2] 24)))
              clear r9 hq9 ha HU7 HV7
              go_wp2_with fail
              rw [← HQ9.out]
              generalize w7.alloc (.cells #[.int .i64 a1, .int .i64 a2] 24) = w8 at HR9 HU8 HV8 ⊢
              obtain ⟨bx, ox, rfl, hbx, hcx⟩ := HV8.out.cells i' _ HA.out
              obtain ⟨ca, ca'⟩ := hcx i' _ HA.out
              change w8.cell? _ = some (.int .i64 a1) at ca
              change w8.cell? _ = some (.int .i64 a2) at ca'
              have e0 : w8.cell? ⟨q9, 0, none⟩ = some (.int .i64 a1) := HR9.out.cell 0
              have e1 : w8.cell? ⟨q9, 1, none⟩ = some (.int .i64 a2) := HR9.out.cell 1
              have z4 : eqP a1 a2 a1 a2 = true := eqP_refl a1 a2
              have hq9l := HR9.out.lt
              clear hcx
              go_region_held3 (fun w' => w'.cell? ⟨q9, 0, none⟩ = some (.int .i64 a1) ∧ w'.cell? ⟨q9, 1, none⟩ = some (.int .i64 a2) ∧ w'.cell? ⟨bx, ox + i' * 2, none⟩ = some (.int .i64 a1) ∧ w'.cell? ⟨bx, ox + i' * 2 + 1, none⟩ = some (.int .i64 a2)) (first | exact ⟨e0, e1, ca, ca'⟩ | exact S9)
                (first | (go_at_call 7; refine (awake_any _).mono ?_; rintro e w9 ⟨rfl, U9⟩; have S9 : w9.cell? ⟨q9, 0, none⟩ = some (.int .i64 a1) ∧ w9.cell? ⟨q9, 1, none⟩ = some (.int .i64 a2) ∧ w9.cell? ⟨bx, ox + i' * 2, none⟩ = some (.int .i64 a1) ∧ w9.cell? ⟨bx, ox + i' * 2 + 1, none⟩ = some (.int .i64 a2) := ⟨(U9.cell (p := ⟨q9, 0, none⟩) hq9l (by simp)).trans e0, (U9.cell (p := ⟨q9, 1, none⟩) hq9l (by simp)).trans e1, (U9.cell (p := ⟨bx, ox + i' * 2, none⟩) hbx (by simp)).trans ca, (U9.cell (p := ⟨bx, ox + i' * 2 + 1, none⟩) hbx (by simp)).trans ca'⟩))
              have HU9 := Lib.hid (HU8.out.drew.trans U9)
              clear U9 S9
              go_wp2_with fail
              exact bodyPost_ret (v := .bool true) (by simp [results, Try.results3, go_sem]) rfl ⟨rfl, HU9.out⟩

end Go.Proofs.Ytpoogkgekeocbaa
