/- The law HotTells: the walk. -/
import Derived.Test.YtpoogkgekeocbaaQ
namespace Go.Proofs.Ytpoogkgekeocbaa
open Go.RowKit
attribute [local go_sem high] run_eq34 run_eq24
attribute [local go_sem] Oper.semAt_some

theorem all_next (xs : List Pt) (j : Nat) (a : Pt) (y : Int) (ha : xs[j]? = some a) : ((xs.take (j + 1)).all fun d => d.2 != y) = (((xs.take j).all fun d => d.2 != y) && (a.2 != y)) := by
  rw [List.take_add_one, ha, List.all_append]
  simp

theorem cnt_le (l : List Pt) : ∀ i, cnt l i ≤ i
  | 0 => Nat.le_refl _
  | i + 1 => by
    have := cnt_le l i
    rw [cnt]
    split <;> omega

theorem SetAt.kept {w w' : World} {s B : Nat} {cs qs} (h : SetAt w s B cs qs) {S : List Nat} (u : Upd S w w') (hS : ∀ k, k ∈ S → k < B) : SetAt w' s B cs qs := by
  obtain ⟨h0, cv, v, rv, h1, h2, h3, h4⟩ := h
  exact ⟨h0, cv, v, rv, h1.upd u (fun e => by have := hS _ e; omega), h2.kept u hS, h3.kept u hS, h4.map fun _ _ z => z.kept u hS⟩

set_option maxRecDepth 100000 in
set_option maxHeartbeats 4000000 in
theorem tells_all (v : Value) (l : List Pt) (stop : Int) (w : World) (hx : Lst w v l) : Calls Try.prog 4 #[v, .int .i64 stop] w fun e w' => e = .returned (.bool true) ∧ Upd [] w w' := by
  obtain ⟨p, cp, rfl, hv⟩ := hx
  have rst0 := (IsRow.new w [.int .i64 stop] 3).alloc (.cells #[.bool false] 4)
  have rre0 := IsRow.new (w.alloc (.cells #[.int .i64 stop] 3)) [.bool false] 4
  have U0 : Upd [] w ((w.alloc (.cells #[.int .i64 stop] 3)).alloc (.cells #[.bool false] 4)) := ((Upd.refl [] w).alloc _).alloc _
  have hz0 : ((w.alloc (.cells #[.int .i64 stop] 3)).alloc (.cells #[.bool false] 4)).heap.size = w.heap.size + 2 := by simp
  simp only [World.size_alloc] at rre0
  by_cases hl : 120 < l.length
  · clear rst0 hz0 hv
    go_enter Try.func4, Try.ntmps4
    go_wp2_with fail
    generalize (w.alloc (.cells #[.int .i64 stop] 3)).alloc (.cells #[.bool false] 4) = w1 at rre0 U0 ⊢
    refine (awake_any _).mono ?_
    rintro e w9 ⟨rfl, U9⟩
    have r9 := rre0.upd U9 (by simp)
    have c9 := r9.cell 0
    have f9 := r9.free 0
    have c10 := (r9.setCell_same 0 (.bool true)).cell 0
    simp only [List.getElem?_cons_zero, List.set_cons_zero] at c9 c10
    have U10 := (U0.trans U9).setCell_new (p := ⟨w.heap.size + 1, 0, none⟩) (by show w.heap.size ≤ w.heap.size + 1; omega) (.bool true)
    clear rre0 r9 U0 U9
    go_wp2_with fail
    exact bodyPost_ret (v := .bool true) (by simp [results, Try.results4, go_sem, c10]) rfl ⟨rfl, U10⟩
  · have hn : l.length ≤ 120 := by omega
    have l0 := hv.lst.upd U0
    clear hv
    refine (callsIn_wide (n := 3)).1 ?_
    refine callsIn_of_wp_marks Try.func4 rfl trivial ?_ rfl
    refine wpIn_wide.2 ?_
    simp only [Try.ntmps4, List.size_toArray, List.length_cons, List.length_nil, Nat.reduceAdd, Nat.reduceSub, Array.replicate_succ, Array.replicate_zero, List.push_toArray, List.append_toArray, List.nil_append, List.cons_append]
    go_wp2_with fail
    obtain ⟨bst, hbst⟩ : ∃ z, z = w.heap.size := ⟨_, rfl⟩
    obtain ⟨bre, hbre⟩ : ∃ z, z = w.heap.size + 1 := ⟨_, rfl⟩
    rw [← hbst] at rst0
    rw [← hbre] at rre0
    rw [← hbre, ← hbst]
    have HBS := Lib.hid (And.intro hbst hbre)
    clear hbst hbre
    generalize (w.alloc (.cells #[.int .i64 stop] 3)).alloc (.cells #[.bool false] 4) = w0 at rst0 rre0 U0 l0 hz0 ⊢
    refine (refs_l l0 (by omega)).mono ?_
    rintro e w1 ⟨⟨v1, rfl, ho1⟩, U1⟩
    have L1 := Lib.hid (l0.upd U1)
    have O1 := Lib.hid ho1.lst
    have RS1 := Lib.hid (rst0.upd U1 (by simp))
    have RR1 := Lib.hid (rre0.upd U1 (by simp))
    have HU1 := Lib.hid (U0.trans U1)
    have HZ0 := Lib.hid hz0
    have hz1 := U1.size
    clear rst0 rre0 U0 U1 l0 ho1
    obtain ⟨bx, hbx⟩ : ∃ z, z = w1.heap.size := ⟨_, rfl⟩
    have rx1 := IsRow.new w1 [v1] 30
    rw [← hbx] at rx1
    have HBX := Lib.hid hbx
    have RX2 := Lib.hid rx1
    have ua : Upd [] w1 (w1.alloc (.cells #[v1] 30)) := (Upd.refl [] w1).alloc _
    have hz2 : (w1.alloc (.cells #[v1] 30)).heap.size = bx + 1 := by simp [hbx]
    have HZ2 := Lib.hid hz2
    clear hz2
    have L2 := Lib.hid (L1.out.upd ua)
    have O2 := Lib.hid (O1.out.upd ua)
    have RS2 := Lib.hid (RS1.out.upd ua (by simp))
    have RR2 := Lib.hid (RR1.out.upd ua (by simp))
    have HU2 := Lib.hid (HU1.out.trans ua)
    obtain ⟨p1, c1, rfl, hv1⟩ := O1.out
    clear L1 O1 RS1 RR1 HU1 rx1 ua hbx hv1
    go_wp2_with fail
    rw [← HBX.out]
    generalize w1.alloc (.cells #[.slice p1 l.length c1] 30) = w2 at RX2 L2 O2 RS2 RR2 HU2 HZ2 ⊢
    cases hb : l.all rightP with
    | false =>
      have HB := Lib.hid hb
      refine (newbad_l L2.out (by omega) hb).mono ?_
      rintro e w3 ⟨rfl, U3⟩
      have RR3 := Lib.hid (RR2.out.upd U3 (by simp))
      have HU3 := Lib.hid (HU2.out.trans U3)
      clear hb U3 RR2 HU2 RS2 L2 O2 RX2
      go_wp2_with fail
      refine (awake_any _).mono ?_
      rintro e w9 ⟨rfl, U9⟩
      have r9 := RR3.out.upd U9 (by simp)
      have c9 := r9.cell 0
      have f9 := r9.free 0
      have c10 := (r9.setCell_same 0 (.bool true)).cell 0
      simp only [List.getElem?_cons_zero, List.set_cons_zero] at c9 c10
      have U10 := (HU3.out.trans U9).setCell_new (p := ⟨bre, 0, none⟩) (by rw [HBS.out.2]; show w.heap.size ≤ w.heap.size + 1; omega) (.bool true)
      clear r9 U9
      go_wp2_with fail
      exact ⟨.bool true, by simp [results, Try.results4, go_sem, c10], rfl, U10⟩
    | true =>
      have HB := Lib.hid hb
      refine (new_l L2.out (by omega) hb).mono ?_
      rintro e w3 ⟨⟨s, qs, rfl, hs, hrs⟩, U3⟩
      have HS3 := Lib.hid hs
      have HQS := Lib.hid hrs
      have RS3 := Lib.hid (RS2.out.upd U3 (by simp))
      have RR3 := Lib.hid (RR2.out.upd U3 (by simp))
      have RX3 := Lib.hid (RX2.out.upd U3 (by simp))
      have O3 := Lib.hid (O2.out.upd U3)
      have HU3 := Lib.hid (HU2.out.trans U3)
      have hz3 := U3.size
      have cx : w3.cell? ⟨bx, 0, none⟩ = some (.slice p1 l.length c1) := RX3.out.cell 0
      clear hb hs hrs U3 RR2 HU2 RS2 L2 O2 RX2
      go_wp2_with fail
      refine (sorted_l O3.out (by omega)).mono ?_
      rintro e w4 ⟨⟨v4, rfl, ho4⟩, U4⟩
      have hul := uniq_len false l
      obtain ⟨up, uc, rfl, hv4⟩ := ho4.view
      have HS4 := Lib.hid (HS3.out.upd U4)
      have RS4 := Lib.hid (RS3.out.upd U4 (by simp))
      have RR4 := Lib.hid (RR3.out.upd U4 (by simp))
      have HU4 := Lib.hid (HU3.out.trans U4)
      have rx4 := RX3.out.upd U4 (by simp)
      have cx4 : w4.cell? ⟨bx, 0, none⟩ = some (.slice p1 l.length c1) := rx4.cell 0
      have fx4 := rx4.free 0
      have hst := uniq_strict false l
      have hct := rows_count (l := uniq false l) HQS.out (fun x => by rw [uniq_mem, uniq_mem])
      generalize uniq false l = xs at hul ho4 hv4 HS4 hst hct ⊢
      have HST := Lib.hid hst
      have HCT := Lib.hid hct
      have us : Upd [bx] w4 (w4.setCell ⟨bx, 0, none⟩ (.slice up xs.length uc)) := (Upd.refl [bx] w4).setCell (p := ⟨bx, 0, none⟩) (by simp) _
      have hbxn : bx < w2.heap.size ∧ w.heap.size + 2 ≤ bx ∧ bst = w.heap.size ∧ bre = w.heap.size + 1 := by have := HZ2.out; have := HBX.out; have := HZ0.out; have := HBS.out; omega
      have HN := Lib.hid hbxn
      have HS5 := Lib.hid (HS4.out.kept us (fun k hk => by simp at hk; omega))
      have RS5 := Lib.hid (RS4.out.upd us (by simp; omega))
      have RR5 := Lib.hid (RR4.out.upd us (by simp; omega))
      have RX5 := Lib.hid (rx4.setCell_same 0 (.slice up xs.length uc))
      have OX5 := Lib.hid (ho4.kept us (fun k hk => by simp at hk; omega))
      have HU5 := Lib.hid (HU4.out.setCell_new (p := ⟨bx, 0, none⟩) (by show w.heap.size ≤ bx; omega) (.slice up xs.length uc))
      have hz5 := us.size
      have hz4 := U4.size
      clear HS3 RS3 RR3 RX3 O3 HU3 U4 ho4 hv4 HS4 RS4 RR4 HU4 rx4 cx hst hct us hbxn
      go_wp2_with fail
      clear cx4 fx4
      generalize w4.setCell ⟨bx, 0, none⟩ (.slice up xs.length uc) = w5 at HS5 RS5 RR5 RX5 OX5 HU5 hz5 ⊢
      have cx5 : w5.cell? ⟨bx, 0, none⟩ = some (.slice up xs.length uc) := RX5.out.cell 0
      go_wp2_with fail
      clear cx5
      go_loopw [9, 55] (fun u9 u55 wr => ∃ i : Nat, i ≤ xs.length ∧ u55 = .int .i64 i ∧ u9 = .int .i64 (cnt xs i) ∧ Upd [] w5 wr) (fun _ u55 _ => xs.length - (intOf u55).toNat)
      case atStart => exact ⟨0, Nat.zero_le _, rfl, rfl, Upd.refl _ _⟩
      case round =>
        obtain ⟨i, hi, rfl, rfl, U6⟩ := hrel
        have hci := cnt_le xs i
        have cx : wr.cell? ⟨bx, 0, none⟩ = some (.slice up xs.length uc) := (RX5.out.upd U6 (by simp)).cell 0
        by_cases hil : i < xs.length
        · obtain ⟨⟨a1, a2⟩, ha⟩ : ∃ a, xs[i]? = some a := ⟨xs[i], List.getElem?_eq_getElem hil⟩
          have hvx := (OX5.out.view'.2).upd U6
          obtain ⟨b6, o6, rfl, hb6, hcx⟩ := hvx.cells i _ ha
          obtain ⟨ca, ca'⟩ := hcx i _ ha
          change wr.cell? _ = some (.int .i64 a1) at ca
          change wr.cell? _ = some (.int .i64 a2) at ca'
          have hcap := hvx.le
          have k1 : (i : Int) ≤ (uc : Int) := by omega
          have k2 : ¬ uc = 0 := by omega
          obtain ⟨qc, hqc⟩ : ∃ z, z = wr.heap.size := ⟨_, rfl⟩
          have rc := IsRow.new wr [.int .i64 a1, .int .i64 a2] 34
          rw [← hqc] at rc
          have HRC := Lib.hid rc
          have ua : Upd [] wr (wr.alloc (.cells #[.int .i64 a1, .int .i64 a2] 34)) := (Upd.refl [] wr).alloc _
          have cx2 : (wr.alloc (.cells #[.int .i64 a1, .int .i64 a2] 34)).cell? ⟨bx, 0, none⟩ = some (.slice (some ⟨b6, o6, none⟩) xs.length uc) := ((RX5.out.upd U6 (by simp)).alloc _).cell 0
          have HU6 := Lib.hid (U6.trans ua)
          have HVX := Lib.hid (hvx.upd ua)
          have HA := Lib.hid ha
          have HQC := Lib.hid hqc
          clear rc hvx hcx ha hqc ua U6
          go_wp2_with fail
          rw [← HQC.out]
          have hz6 : qc < (wr.alloc (.cells #[.int .i64 a1, .int .i64 a2] 34)).heap.size := by simp [HQC.out]
          generalize wr.alloc (.cells #[.int .i64 a1, .int .i64 a2] 34) = w6 at HRC HU6 HVX hz6 ⊢
          clear cx2 cx ca ca' k1 k2
          go_loopw [12, 64] (fun u12 u64 wi => ∃ j : Nat, j ≤ i ∧ u64 = .int .i64 j ∧ u12 = .bool ((xs.take j).all fun d => d.2 != a2) ∧ Upd [] w6 wi) (fun _ u64 _ => i - (intOf u64).toNat)
          case atStart => exact ⟨0, Nat.zero_le _, rfl, by simp, Upd.refl _ _⟩
          case round =>
            obtain ⟨j, hj, rfl, rfl, U7⟩ := hrel
            by_cases hji : j < i
            · obtain ⟨⟨b1, b2⟩, hb⟩ : ∃ a, xs[j]? = some a := ⟨xs[j]'(by omega), List.getElem?_eq_getElem _⟩
              obtain ⟨b7, o7, e7, _, hcy⟩ := (HVX.out.upd U7).cells j _ hb
              cases e7
              obtain ⟨cb, cb'⟩ := hcy j _ hb
              change wr.cell? _ = some (.int .i64 b1) at cb
              change wr.cell? _ = some (.int .i64 b2) at cb'
              have HAN := Lib.hid (all_next xs j (b1, b2) a2 hb)
              generalize ((xs.take j).all fun d => d.2 != a2) = B at HAN ⊢
              have c11 : wr.cell? ⟨qc, 1, none⟩ = some (.int .i64 a2) := (HRC.out.upd U7 (by simp)).cell 1
              have c12 : (wr.alloc (.cells #[.int .i64 b1, .int .i64 b2] 34)).cell? ⟨qc, 1, none⟩ = some (.int .i64 a2) := ((HRC.out.upd U7 (by simp)).alloc _).cell 1
              have lqc := (HRC.out.upd U7 (by simp)).lt
              have HU7 := Lib.hid (U7.alloc (.cells #[.int .i64 b1, .int .i64 b2] 34))
              clear hcy hb U7
              cases B with
              | true =>
                go_wp2_with fail
                go_roundw
                case rel => exact ⟨j + 1, by omega, by go_num, by rw [HAN.out]; rfl, HU7.out⟩
                case measure => simp [intOf]; omega
              | false =>
                go_wp2_with fail
                go_roundw
                case rel => exact ⟨j + 1, by omega, by go_num, by rw [HAN.out]; rfl, HU7.out⟩
                case measure => simp [intOf]; omega
            · have hje : j = i := by omega
              subst hje
              have hfi : ((xs.take j).all fun d => d.2 != a2) = isFirst xs j := by
                unfold isFirst
                rw [nth_of HA.out]
              have hcn : cnt xs (j + 1) = cnt xs j + if isFirst xs j then 1 else 0 := rfl
              have HCN := Lib.hid hcn
              clear hcn
              rw [hfi]
              have HU8 := Lib.hid (HU6.out.trans U7)
              clear hfi U7 HU6 HVX HRC
              cases hf : isFirst xs j with
              | true =>
                have HF := Lib.hid hf
                clear hf
                go_wp2_with fail
                go_roundw
                case rel => exact ⟨j + 1, by omega, by go_num, by have h1 := HCN.out; rw [HF.out] at h1; simp at h1; rw [h1]; go_num, HU8.out⟩
                case measure => simp [intOf]; omega
              | false =>
                have HF := Lib.hid hf
                clear hf
                go_wp2_with fail
                go_roundw
                case rel => exact ⟨j + 1, by omega, by go_num, by have h1 := HCN.out; rw [HF.out] at h1; simp at h1; rw [h1], HU8.out⟩
                case measure => simp [intOf]; omega
        · have hie : i = xs.length := by omega
          subst hie
          have uk : Upd [] wr (wr.alloc (.cells #[.int .i64 0] 3)) := (Upd.refl [] wr).alloc _
          have HS7 := Lib.hid ((HS5.out.upd U6).upd uk)
          obtain ⟨bk, hbk⟩ : ∃ z, z = wr.heap.size := ⟨_, rfl⟩
          have rk := IsRow.new wr [.int .i64 0] 3
          rw [← hbk] at rk
          have hz7 : (wr.alloc (.cells #[.int .i64 0] 3)).heap.size = bk + 1 := by simp [hbk]
          have RK := Lib.hid rk
          have HBK := Lib.hid hbk
          have HS6 := Lib.hid (HS5.out.upd U6)
          have RS6 := Lib.hid (RS5.out.upd U6 (by simp))
          have RR6 := Lib.hid (RR5.out.upd U6 (by simp))
          have RX6 := Lib.hid (RX5.out.upd U6 (by simp))
          have OX6 := Lib.hid (OX5.out.kept U6 (by simp))
          have HU6 := Lib.hid (HU5.out.trans U6)
          have UK := Lib.hid uk
          have HZ7 := Lib.hid hz7
          have hbkx : bx < bk ∧ w2.heap.size ≤ bk := by have := U6.size; have := HN.out; omega
          rw [HCT.out]
          clear uk U6 HS5 RS5 RR5 RX5 OX5 HU5 rk hbk hz7 cx hci
          go_wp2_with fail
          rw [← HBK.out]
          generalize wr.alloc (.cells #[.int .i64 0] 3) = w7 at HS7 RK HZ7 UK ⊢
          refine (all_any s _ _ _ _ HS7.out).mono ?_
          rintro e w8 ⟨p8, c8, hv8, hg8, rfl, rfl⟩
          obtain ⟨q8, hq8⟩ : ∃ z, z = w7.heap.size := ⟨_, rfl⟩
          have r8 := IsRow.new w7 [.slice p8 xs.length c8] 22
          rw [← hq8] at r8 ⊢
          have u8 : Upd [] w7 (w7.alloc (.cells #[.slice p8 xs.length c8] 22)) := (Upd.refl [] w7).alloc _
          have HV8 := Lib.hid (hv8.upd u8)
          have RK8 := Lib.hid (RK.out.upd u8 (by simp))
          have UK8 := Lib.hid (UK.out.trans u8)
          have HZ8 : (w7.alloc (.cells #[.slice p8 xs.length c8] 22)).heap.size = bk + 2 := by have := HZ7.out; simp; omega
          have HR8 := Lib.hid r8
          have HX8 : ∀ b off k, p8 = some ⟨b, off, k⟩ → b ∉ [bk] := fun b off k e hm => by
            obtain ⟨_, c', f', h8⟩ := hg8 b off k e
            have h9 := RK.out
            unfold IsRow at h9
            rw [List.mem_singleton.1 hm, h9] at h8
            cases h8
          have HG8 := Lib.hid HX8
          clear hv8 u8 r8 HS7 RK hg8 HX8 UK hq8
          generalize w7.alloc (.cells #[.slice p8 xs.length c8] 22) = w8 at HV8 RK8 UK8 HZ8 HR8 ⊢
          go_wp2_with fail
          have hwr : wr.heap.size = bk := HBK.out.symm
          refine (wpIn_wide (n := 3)).1 ?_
          refine wp_rangeN' (gf := 45) (lb := #[.pointer (some ⟨q8, 0, none⟩)]) rfl (enters_of Try.func45 (by kernel_rfl) rfl)
            (all_iter 2 w8 q8 p8 c8 xs [bk] HV8.out (by omega) HR8.out (fun _ => HG8.out)) (fun _ => rfl) (by simp)
            (fun pre W => IsRow W bk 3 [.int .i64 pre.length] ∧ Upd [] wr W ∧ w8.heap.size ≤ W.heap.size ∧ (0 < pre.length → (pre.length : Int) ≠ stop))
            (fun c pre W => c = .exit 4 ∧ IsRow W bk 3 [.int .i64 pre.length] ∧ Upd [] wr W ∧ (pre.length : Int) = stop)
            ?hI ?hIx ?hAdm ?h0 (fun t y W => (((t.setIfInBounds 83 (.int .i64 y.1)).setIfInBounds 84 (.agg #[.int .i64 y.2.1, .int .i64 y.2.2])).setIfInBounds 16 (.int .i64 y.1)).setIfInBounds 17 (.pointer (some ⟨W.heap.size, 0, none⟩)))
            (fun y W => W.alloc (.cells #[.int .i64 y.2.1, .int .i64 y.2.2] 24)) (fun _ W => (Upd.refl [] W).alloc _) ?assign ?body ?done ?stop
          case hI =>
            rintro pre W W' ⟨h1, h2, h3, h4⟩ u
            exact ⟨u.row h1 (by simp), u.upd h2 (by omega) (by simp), Nat.le_trans h3 u.size, h4⟩
          case hIx =>
            rintro c pre W W' ⟨h1, h2, h3, h4⟩ u
            exact ⟨h1, u.row h2 (by simp), u.upd h3 (by omega) (by simp), h4⟩
          case hAdm =>
            rintro pre y W W' h u
            exact h
          case h0 => exact ⟨RK8.out, UK8.out, Nat.le_refl _, fun h => absurd h (by simp)⟩
          case assign =>
            rintro l ⟨n, a1, a2⟩ W K hK
            simp only [pv]
            gi_wp2
            exact hK
          case stop =>
            rintro D c pre W hD _ ⟨rfl, h1, h2, h4⟩ hK
            have ck : W.cell? ⟨bk, 0, none⟩ = some (.int .i64 pre.length) := h1.cell 0
            have q1 : ((pre.length : Int) == stop) = true := by rw [beq_iff_eq]; exact h4
            have HS9 := Lib.hid (HS6.out.upd h2)
            have RR9 := Lib.hid (RR6.out.upd h2 (by simp))
            have cst : W.cell? ⟨bst, 0, none⟩ = some (.int .i64 stop) := (RS6.out.upd h2 (by simp)).cell 0
            have cx : W.cell? ⟨bx, 0, none⟩ = some (.slice up xs.length uc) := (RX6.out.upd h2 (by simp)).cell 0
            have HU9 := Lib.hid (HU6.out.trans h2)
            have HKD := Lib.hid hK
            clear h1 h2 h4 hK
            gi_wp2_with fail
            go_wp2_with fail
            refine (rows_any s _ _ _ _ HS9.out).mono ?_
            rintro e w10 ⟨rfl, U10⟩
            have RR10 := Lib.hid (RR9.out.upd U10 (by simp))
            have HU10 := Lib.hid (HU9.out.trans U10)
            have HK10 := Lib.hid ((U10.block D (Array.getElem?_eq_some_iff.1 HKD.out).1 (by simp)).trans HKD.out)
            have qe : ((qs.length : Int) == (qs.length : Int)) = true := by simp
            clear U10 RR9 HU9 HS9 HKD cst cx ck
            go_wp2_with fail
            refine (awake_any _).mono ?_
            rintro e w9 ⟨rfl, U9⟩
            have r9 := RR10.out.upd U9 (by simp)
            have c9 : w9.cell? ⟨bre, 0, none⟩ = some (.bool false) := r9.cell 0
            have f9 := r9.free 0
            have U11 : Upd [] w (w9.setCell ⟨bre, 0, none⟩ (.bool true)) := (HU10.out.trans U9).setCell_new (p := ⟨bre, 0, none⟩) (by have := HN.out; show w.heap.size ≤ bre; omega) _
            have r10 := r9.setCell_same 0 (.bool true)
            have hK9 := ((U9.block D (Array.getElem?_eq_some_iff.1 HK10.out).1 (by simp)).trans HK10.out)
            have hK11 : (w9.setCell ⟨bre, 0, none⟩ (.bool true)).heap[D]? = some (.deferred (some [])) := (Below.heap_setCell _ _ _ _ (by have := HN.out; show D ≠ bre; omega)).trans hK9
            have HF := Lib.hid (And.intro U11 (And.intro r10 hK11))
            clear U9 r9 U11 r10 hK9 hK11
            go_wp2_with fail
            refine ⟨by simp, .inl ⟨_, _, rfl, run_takeDeferred HF.out.2.2, ?_⟩⟩
            have uf := updF_putObj (B := w8.heap.size) _ D _ (.deferred none) hD HF.out.2.2 rfl
            have cr := (uf.row HF.out.2.1 (by simp)).cell 0
            exact ⟨.bool true, by simp at cr; simp [results, Try.results4, go_sem, cr], rfl, uf.upd HF.out.1 (by have := HN.out; omega) (by simp)⟩
          case done =>
            rintro D pre W hD hlen ⟨h1, h2, h3, h4⟩ hK
            rw [hlen] at h1
            have ck : W.cell? ⟨bk, 0, none⟩ = some (.int .i64 xs.length) := h1.cell 0
            have q2 : ((xs.length : Int) == (xs.length : Int)) = true := by simp
            by_cases hks : (xs.length : Int) = stop
            · have q1 : ((xs.length : Int) == stop) = true := by rw [beq_iff_eq]; exact hks
              have HS9 := Lib.hid (HS6.out.upd h2)
              have RR9 := Lib.hid (RR6.out.upd h2 (by simp))
              have cst : W.cell? ⟨bst, 0, none⟩ = some (.int .i64 stop) := (RS6.out.upd h2 (by simp)).cell 0
              have cx : W.cell? ⟨bx, 0, none⟩ = some (.slice up xs.length uc) := (RX6.out.upd h2 (by simp)).cell 0
              have HU9 := Lib.hid (HU6.out.trans h2)
              have HKD := Lib.hid hK
              clear h1 h2 h3 h4 hK hks hlen
              go_wp2_with fail
              refine (rows_any s _ _ _ _ HS9.out).mono ?_
              rintro e w10 ⟨rfl, U10⟩
              have RR10 := Lib.hid (RR9.out.upd U10 (by simp))
              have HU10 := Lib.hid (HU9.out.trans U10)
              have HK10 := Lib.hid ((U10.block D (Array.getElem?_eq_some_iff.1 HKD.out).1 (by simp)).trans HKD.out)
              have qe : ((qs.length : Int) == (qs.length : Int)) = true := by simp
              clear U10 RR9 HU9 HS9 HKD cst cx ck
              go_wp2_with fail
              refine (awake_any _).mono ?_
              rintro e w9 ⟨rfl, U9⟩
              have r9 := RR10.out.upd U9 (by simp)
              have c9 : w9.cell? ⟨bre, 0, none⟩ = some (.bool false) := r9.cell 0
              have f9 := r9.free 0
              have U11 : Upd [] w (w9.setCell ⟨bre, 0, none⟩ (.bool true)) := (HU10.out.trans U9).setCell_new (p := ⟨bre, 0, none⟩) (by have := HN.out; show w.heap.size ≤ bre; omega) _
              have r10 := r9.setCell_same 0 (.bool true)
              have hK9 := ((U9.block D (Array.getElem?_eq_some_iff.1 HK10.out).1 (by simp)).trans HK10.out)
              have hK11 : (w9.setCell ⟨bre, 0, none⟩ (.bool true)).heap[D]? = some (.deferred (some [])) := (Below.heap_setCell _ _ _ _ (by have := HN.out; show D ≠ bre; omega)).trans hK9
              have HF := Lib.hid (And.intro U11 (And.intro r10 hK11))
              clear U9 r9 U11 r10 hK9 hK11
              go_wp2_with fail
              refine ⟨by simp, .inl ⟨_, _, rfl, run_takeDeferred HF.out.2.2, ?_⟩⟩
              have uf := updF_putObj (B := w8.heap.size) _ D _ (.deferred none) hD HF.out.2.2 rfl
              have cr := (uf.row HF.out.2.1 (by simp)).cell 0
              exact ⟨.bool true, by simp at cr; simp [results, Try.results4, go_sem, cr], rfl, uf.upd HF.out.1 (by have := HN.out; omega) (by simp)⟩
            · have q1 : ((xs.length : Int) == stop) = false := by rw [beq_eq_false_iff_ne]; exact hks
              have HS9 := Lib.hid (HS6.out.upd h2)
              have RR9 := Lib.hid (RR6.out.upd h2 (by simp))
              have cst : W.cell? ⟨bst, 0, none⟩ = some (.int .i64 stop) := (RS6.out.upd h2 (by simp)).cell 0
              have cx : W.cell? ⟨bx, 0, none⟩ = some (.slice up xs.length uc) := (RX6.out.upd h2 (by simp)).cell 0
              have HU9 := Lib.hid (HU6.out.trans h2)
              have HKD := Lib.hid hK
              clear h1 h2 h3 h4 hK hks hlen
              go_wp2_with fail
              refine (rows_any s _ _ _ _ HS9.out).mono ?_
              rintro e w10 ⟨rfl, U10⟩
              have RR10 := Lib.hid (RR9.out.upd U10 (by simp))
              have HU10 := Lib.hid (HU9.out.trans U10)
              have HK10 := Lib.hid ((U10.block D (Array.getElem?_eq_some_iff.1 HKD.out).1 (by simp)).trans HKD.out)
              have qe : ((qs.length : Int) == (qs.length : Int)) = true := by simp
              clear U10 RR9 HU9 HS9 HKD cst cx ck
              go_wp2_with fail
              refine (awake_any _).mono ?_
              rintro e w9 ⟨rfl, U9⟩
              have r9 := RR10.out.upd U9 (by simp)
              have c9 : w9.cell? ⟨bre, 0, none⟩ = some (.bool false) := r9.cell 0
              have f9 := r9.free 0
              have U11 : Upd [] w (w9.setCell ⟨bre, 0, none⟩ (.bool true)) := (HU10.out.trans U9).setCell_new (p := ⟨bre, 0, none⟩) (by have := HN.out; show w.heap.size ≤ bre; omega) _
              have r10 := r9.setCell_same 0 (.bool true)
              have hK9 := ((U9.block D (Array.getElem?_eq_some_iff.1 HK10.out).1 (by simp)).trans HK10.out)
              have hK11 : (w9.setCell ⟨bre, 0, none⟩ (.bool true)).heap[D]? = some (.deferred (some [])) := (Below.heap_setCell _ _ _ _ (by have := HN.out; show D ≠ bre; omega)).trans hK9
              have HF := Lib.hid (And.intro U11 (And.intro r10 hK11))
              clear U9 r9 U11 r10 hK9 hK11
              go_wp2_with fail
              refine ⟨by simp, .inl ⟨_, _, rfl, run_takeDeferred HF.out.2.2, ?_⟩⟩
              have uf := updF_putObj (B := w8.heap.size) _ D _ (.deferred none) hD HF.out.2.2 rfl
              have cr := (uf.row HF.out.2.1 (by simp)).cell 0
              exact ⟨.bool true, by simp at cr; simp [results, Try.results4, go_sem, cr], rfl, uf.upd HF.out.1 (by have := HN.out; omega) (by simp)⟩
          case body =>
            rintro l pre ⟨n, a1, a2⟩ W0 W ⟨h1, h2, h3, h4⟩ ⟨hn1, ha⟩ uN
            dsimp only at hn1 ha uN ⊢
            subst hn1
            have hkl := (List.getElem?_eq_some_iff.1 ha).1
            generalize hk : pre.length = k at *
            obtain ⟨qn, hqn⟩ : ∃ z, z = W0.heap.size := ⟨_, rfl⟩
            have rn := uN.row (IsRow.new W0 [.int .i64 a1, .int .i64 a2] 24) (by simp)
            rw [← hqn] at rn ⊢
            have c17 : W.cell? ⟨qn, 0, none⟩ = some (.int .i64 a1) := rn.cell 0
            have c17' : W.cell? ⟨qn, 1, none⟩ = some (.int .i64 a2) := rn.cell 1
            have ck : W.cell? ⟨bk, 0, none⟩ = some (.int .i64 k) := h1.cell 0
            have cx : W.cell? ⟨bx, 0, none⟩ = some (.slice up xs.length uc) := (RX6.out.upd h2 (by simp)).cell 0
            obtain ⟨b6, o6, rfl, hb6, hcx⟩ := ((OX6.out.view'.2).upd h2).cells k _ ha
            obtain ⟨ca, ca'⟩ := hcx k _ ha
            change W.cell? _ = some (.int .i64 a1) at ca
            change W.cell? _ = some (.int .i64 a2) at ca'
            have z0 : ((k : Int) != (k : Int)) = false := by simp
            have z1 : decide ((xs.length : Int) ≤ (k : Int)) = false := decide_eq_false (by omega)
            have z2 : (k : Int) < (xs.length : Int) := by omega
            have z3 : (0 : Int) ≤ (k : Int) := by omega
            have z4 : eqP a1 a2 a1 a2 = true := eqP_refl a1 a2
            have HK := Lib.hid hk
            have H1 := Lib.hid h1
            have H2 := Lib.hid h2
            clear hcx ha hk rn hqn h1 h2 uN
            gi_wp2_with fail
            refine round_quiet (r := l) (by rintro ⟨_, _, hh⟩; exact hh) (by kernel_rfl) (by kernel_rfl) (by kernel_rfl) ?_
            repeat (first | go_big_quiet_step (fail) | quiet_step (fail))
            refine wpQuiet_nil ?_
            intro _ hw'
            obtain ⟨nq, hw''⟩ := hw'
            subst hw''
            have u3 : Upd [] W (W.drewN nq) := (Upd.refl [] W).drewN nq
            have H3 := Lib.hid (H1.out.upd u3 (by simp))
            have H4 := Lib.hid (H2.out.trans u3)
            have U3 := Lib.hid u3
            have hz9 := u3.size
            clear H1 H2 u3 ca ca' cx ck c17 c17' z0 z1 z2 z3 z4 hb6
            generalize W.drewN nq = W2 at H3 H4 U3 hz9 ⊢
            have ck : W2.cell? ⟨bk, 0, none⟩ = some (.int .i64 k) := H3.out.cell 0
            have fk := H3.out.free 0
            obtain ⟨Wa, hWa⟩ : ∃ z, z = W2.setCell ⟨bk, 0, none⟩ (.int .i64 ((k : Int) + 1)) := ⟨_, rfl⟩
            have ua : Upd [bk] W2 Wa := by rw [hWa]; exact (Upd.refl [bk] W2).setCell (p := ⟨bk, 0, none⟩) (by simp) _
            have rka : IsRow Wa bk 3 [.int .i64 ((k : Int) + 1)] := by rw [hWa]; exact H3.out.setCell_same 0 _
            have uwa : Upd [] wr Wa := by rw [hWa]; exact H4.out.setCell_new (p := ⟨bk, 0, none⟩) (by show wr.heap.size ≤ bk; omega) _
            have cka : Wa.cell? ⟨bk, 0, none⟩ = some (.int .i64 ((k : Int) + 1)) := rka.cell 0
            have csta : Wa.cell? ⟨bst, 0, none⟩ = some (.int .i64 stop) := (RS6.out.upd uwa (by simp)).cell 0
            have hsz : w8.heap.size ≤ Wa.heap.size := Nat.le_trans (Nat.le_trans h3 hz9) ua.size
            have hlw : Lows [bk] w8.heap.size W Wa := ((U3.out.mono (S' := [bk]) (by simp)).trans ua).lows (fun z hz _ => by
              rw [List.mem_singleton] at hz
              subst hz
              exact .inl ⟨by simp, by omega⟩)
            rw [hWa] at cka csta
            have HWA := Lib.hid hWa
            have HD := Lib.hid (And.intro hlw (And.intro rka (And.intro uwa hsz)))
            clear hWa ua rka uwa hsz hlw h3 H3 H4 U3 hz9
            by_cases hks : (k : Int) + 1 = stop
            · have q1 : ((k : Int) + 1 == stop) = true := by rw [beq_iff_eq]; exact hks
              have HKS := Lib.hid hks
              clear hks
              gi_wp2_with fail
              rw [← HWA.out]
              refine ⟨HD.out.1, rfl, ?_, HD.out.2.2.1, ?_⟩
              · rw [List.length_append]
                show IsRow Wa bk 3 [.int .i64 ((pre.length + 1 : Nat) : Int)]
                rw [HK.out]
                exact HD.out.2.1
              · rw [List.length_append]
                show ((pre.length + 1 : Nat) : Int) = stop
                rw [HK.out]
                have := HKS.out
                omega
            · have q1 : ((k : Int) + 1 == stop) = false := by rw [beq_eq_false_iff_ne]; exact hks
              have HKS := Lib.hid hks
              clear hks
              gi_wp2_with fail
              rw [← HWA.out]
              refine ⟨HD.out.1, ?_, HD.out.2.2.1, HD.out.2.2.2, fun _ => ?_⟩
              · rw [List.length_append]
                show IsRow Wa bk 3 [.int .i64 ((pre.length + 1 : Nat) : Int)]
                rw [HK.out]
                exact HD.out.2.1
              · rw [List.length_append]
                show ((pre.length + 1 : Nat) : Int) ≠ stop
                rw [HK.out]
                have := HKS.out
                omega

end Go.Proofs.Ytpoogkgekeocbaa
