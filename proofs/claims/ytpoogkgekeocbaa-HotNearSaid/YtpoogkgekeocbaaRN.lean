/- The reference's Near. -/
import Derived.Test.YtpoogkgekeocbaaWM
namespace Go.Proofs.Ytpoogkgekeocbaa
open Go.RowKit
attribute [local go_sem] Oper.semAt_some

def sw (a : Pt) : Pt := (a.2, a.1)
theorem sw_uniq (l : List Pt) : (uniq false (l.map sw)).map sw = uniq true l := by
  refine eq_uniq ?_ fun x => ?_
  · refine List.pairwise_map.2 (List.Pairwise.imp (fun {a b} hab => ?_) (uniq_strict false (l.map sw)))
    unfold ltP kd at hab ⊢
    unfold sw
    simp at hab ⊢
    exact hab
  · rw [List.mem_map]
    constructor
    · rintro ⟨a, ha, rfl⟩
      rw [uniq_mem, List.mem_map] at ha
      obtain ⟨b, hb, rfl⟩ := ha
      exact hb
    · intro hx
      exact ⟨sw x, (uniq_mem _ _ _).2 (List.mem_map.2 ⟨x, hx, rfl⟩), rfl⟩
theorem uniq_filter (t : Bool) (f : Pt → Bool) (l : List Pt) : (uniq t l).filter f = uniq t (l.filter f) :=
  eq_uniq (List.Pairwise.sublist List.filter_sublist (uniq_strict t l)) fun x => by rw [List.mem_filter, List.mem_filter, uniq_mem]
theorem near_list (lo hi : Pt) (l : List Pt) : (uniq false ((l.filter (btw lo hi)).map sw)).map sw = (uniq true l).filter (btw lo hi) := by
  rw [sw_uniq, uniq_filter]
theorem filter_next (f : Pt → Bool) (l : List Pt) (j : Nat) (a : Pt) (ha : l[j]? = some a) : ((l.take (j + 1)).filter f).map sw = ((l.take j).filter f).map sw ++ (if f a then [sw a] else []) := by
  rw [List.take_add_one, ha, List.filter_append, List.map_append]
  congr 1
  show (List.filter f [a]).map sw = _
  rw [List.filter_cons]
  split <;> simp_all
theorem map_next (l : List Pt) (j : Nat) (a : Pt) (ha : l[j]? = some a) : (l.take (j + 1)).map sw = (l.take j).map sw ++ [sw a] := by
  rw [List.take_add_one, ha, List.map_append]
  rfl

theorem oneAt_sw (w : World) (o : Obj) (a1 a2 : Int) (t : TypeId) : OneAt ((w.alloc o).alloc (.cells #[.int .i64 a2, .int .i64 a1] t)) (w.heap.size + 1) (sw (a1, a2)) := oneAt_new2 w o (a2, a1) t
theorem oneAt_sw1 (w : World) (a1 a2 : Int) (t : TypeId) : OneAt (w.alloc (.cells #[.int .i64 a2, .int .i64 a1] t)) w.heap.size (sw (a1, a2)) := oneAt_new w (a2, a1) t

set_option maxRecDepth 100000 in
set_option maxHeartbeats 2000000 in
theorem refnear_any (v : Value) (l : List Pt) (lo hi : Pt) (w : World) (hx : Lst w v l) (hn : l.length ≤ 1000000) :
    Calls Try.prog 17 #[v, pv lo, pv hi] w fun e w' => (∃ r, e = .returned r ∧ Own 34 w' w.heap.size r ((uniq true l).filter (btw lo hi))) ∧ Upd [] w w' := by
  obtain ⟨p, c, rfl, hv⟩ := hx
  obtain ⟨lo1, lo2⟩ := lo
  obtain ⟨hi1, hi2⟩ := hi
  show Calls Try.prog 17 #[.slice p l.length c, .agg #[.int .i64 lo1, .int .i64 lo2], .agg #[.int .i64 hi1, .int .i64 hi2]] w _
  have rl0 := (IsRow.new w [.int .i64 lo1, .int .i64 lo2] 34).alloc (.cells #[.int .i64 hi1, .int .i64 hi2] 34)
  have rh0 := IsRow.new (w.alloc (.cells #[.int .i64 lo1, .int .i64 lo2] 34)) [.int .i64 hi1, .int .i64 hi2] 34
  have U0 : Upd [] w ((w.alloc (.cells #[.int .i64 lo1, .int .i64 lo2] 34)).alloc (.cells #[.int .i64 hi1, .int .i64 hi2] 34)) := ((Upd.refl [] w).alloc _).alloc _
  simp only [World.size_alloc] at rh0
  obtain ⟨q, hq⟩ : ∃ z, z = w.heap.size := ⟨_, rfl⟩
  rw [← hq] at rl0 rh0
  have HQ := Lib.hid hq
  have HL := Lib.hid rl0
  have HH := Lib.hid rh0
  have HV := Lib.hid (hv.upd U0)
  have HU := Lib.hid U0
  clear hq rl0 rh0 hv U0
  go_enter Try.func17, Try.ntmps17
  go_wp2_with fail
  rw [← HQ.out]
  generalize (w.alloc (.cells #[.int .i64 lo1, .int .i64 lo2] 34)).alloc (.cells #[.int .i64 hi1, .int .i64 hi2] 34) = w0 at HL HH HV HU ⊢
  go_loopw [7, 8] (fun u7 u8 wr => ∃ j : Nat, j ≤ l.length ∧ u8 = .int .i64 j ∧ Own 34 wr w0.heap.size u7 (((l.take j).filter (btw (lo1, lo2) (hi1, hi2))).map sw) ∧ Upd [] w0 wr) (fun _ u8 _ => l.length - (intOf u8).toNat)
  case atStart => exact ⟨0, Nat.zero_le _, rfl, Own.nil _ _, Upd.refl _ _⟩
  case round =>
    obtain ⟨j, hj, rfl, hown, U1⟩ := hrel
    have hfl : (((l.take j).filter (btw (lo1, lo2) (hi1, hi2))).map sw).length ≤ 1000000 := by
      rw [List.length_map]
      have h1 := List.length_filter_le (btw (lo1, lo2) (hi1, hi2)) (l.take j)
      rw [List.length_take] at h1
      omega
    have HFL := Lib.hid hfl
    have HO := Lib.hid hown
    clear hown hfl
    by_cases hjl : j < l.length
    · obtain ⟨⟨a1, a2⟩, ha⟩ : ∃ a, l[j]? = some a := ⟨l[j], List.getElem?_eq_getElem hjl⟩
      obtain ⟨bx, ox, rfl, _, hcx⟩ := (HV.out.upd U1).cells j _ ha
      obtain ⟨ca, ca'⟩ := hcx j _ ha
      change wr.cell? _ = some (.int .i64 a1) at ca
      change wr.cell? _ = some (.int .i64 a2) at ca'
      have HFN := Lib.hid (filter_next (btw (lo1, lo2) (hi1, hi2)) l j (a1, a2) ha)
      obtain ⟨qa, hqa⟩ : ∃ z, z = wr.heap.size := ⟨_, rfl⟩
      have ra := IsRow.new wr [.int .i64 a1, .int .i64 a2] 34
      have ua : Upd [] wr (wr.alloc (.cells #[.int .i64 a1, .int .i64 a2] 34)) := (Upd.refl [] wr).alloc _
      have el0 : (wr.alloc (.cells #[.int .i64 a1, .int .i64 a2] 34)).cell? ⟨q, 0, none⟩ = some (.int .i64 lo1) := ((HL.out.upd U1 (by simp)).upd ua (by simp)).cell 0
      have el1 : (wr.alloc (.cells #[.int .i64 a1, .int .i64 a2] 34)).cell? ⟨q, 1, none⟩ = some (.int .i64 lo2) := ((HL.out.upd U1 (by simp)).upd ua (by simp)).cell 1
      have eh0 : (wr.alloc (.cells #[.int .i64 a1, .int .i64 a2] 34)).cell? ⟨q + 1, 0, none⟩ = some (.int .i64 hi1) := ((HH.out.upd U1 (by simp)).upd ua (by simp)).cell 0
      have eh1 : (wr.alloc (.cells #[.int .i64 a1, .int .i64 a2] 34)).cell? ⟨q + 1, 1, none⟩ = some (.int .i64 hi2) := ((HH.out.upd U1 (by simp)).upd ua (by simp)).cell 1
      have ea0 : (wr.alloc (.cells #[.int .i64 a1, .int .i64 a2] 34)).cell? ⟨wr.heap.size, 0, none⟩ = some (.int .i64 a1) := ra.cell 0
      have ea1 : (wr.alloc (.cells #[.int .i64 a1, .int .i64 a2] 34)).cell? ⟨wr.heap.size, 1, none⟩ = some (.int .i64 a2) := ra.cell 1
      have HO2 := Lib.hid (HO.out.kept ua (by simp))
      have HU2 := Lib.hid (U1.trans ua)
      clear hcx ha ra ua U1 hqa HO
      obtain ⟨k0, hk0⟩ : ∃ b, decide (lo1 ≤ a1) = b := ⟨_, rfl⟩
      obtain ⟨k1, hk1⟩ : ∃ b, decide (a1 ≤ hi1) = b := ⟨_, rfl⟩
      obtain ⟨k2, hk2⟩ : ∃ b, decide (lo2 ≤ a2) = b := ⟨_, rfl⟩
      obtain ⟨k3, hk3⟩ : ∃ b, decide (a2 ≤ hi2) = b := ⟨_, rfl⟩
      have hbt : btw (lo1, lo2) (hi1, hi2) (a1, a2) = (k0 && k1 && k2 && k3) := by
        rw [← hk0, ← hk1, ← hk2, ← hk3]
        unfold btw
        simp only [Bool.and_assoc, Bool.decide_and]
      have HBT := Lib.hid hbt
      clear hbt
      cases k0 with
      | false =>
        go_wp2_with fail
        go_roundw
        case rel => exact ⟨j + 1, by omega, by go_num, by rw [HFN.out, HBT.out]; simp; exact HO2.out, HU2.out⟩
        case measure => simp [intOf]; omega
      | true =>
        cases k1 with
        | false =>
          go_wp2_with fail
          go_roundw
          case rel => exact ⟨j + 1, by omega, by go_num, by rw [HFN.out, HBT.out]; simp; exact HO2.out, HU2.out⟩
          case measure => simp [intOf]; omega
        | true =>
          cases k2 with
          | false =>
            go_wp2_with fail
            go_roundw
            case rel => exact ⟨j + 1, by omega, by go_num, by rw [HFN.out, HBT.out]; simp; exact HO2.out, HU2.out⟩
            case measure => simp [intOf]; omega
          | true =>
            cases k3 with
            | false =>
              go_wp2_with fail
              go_roundw
              case rel => exact ⟨j + 1, by omega, by go_num, by rw [HFN.out, HBT.out]; simp; exact HO2.out, HU2.out⟩
              case measure => simp [intOf]; omega
            | true =>
              go_wp2_with (at_builtin; go_loud (refine wpList_append_oneg ty30 (u := sw (a1, a2)) rfl _ _ rfl w0 _ _ _ 1 (by rfl) (by rfl) (oneAt_sw _ _ _ _ _) (HO2.out.kept ((Upd.refl [] _).alloc _) (fun _ h => nomatch h)) (HU2.out.alloc _) (by have h := HFL.out; simp only [List.length_map] at h ⊢; omega) ?_))
              intro v2 w2 ho2 U3 U4
              have HO3 := Lib.hid ho2
              clear ho2 U4 el0 el1 eh0 eh1 ea0 ea1 ca ca'
              go_wp2_with fail
              go_roundw
              case rel => exact ⟨j + 1, by omega, by go_num, by rw [HFN.out, HBT.out]; exact HO3.out, U3⟩
              case measure => simp [intOf]; omega
    · have hje : j = l.length := by omega
      subst hje
      rw [List.take_length] at HO HFL
      have HU2 := Lib.hid (HU.out.trans U1)
      have hw0 := HU.out.size
      have LO := Lib.hid HO.out.lst
      have hl2 : ((l.filter (btw (lo1, lo2) (hi1, hi2))).map sw).length ≤ 1000000 := HFL.out
      have HEQ := Lib.hid (near_list (lo1, lo2) (hi1, hi2) l)
      clear U1 HO HFL
      generalize (l.filter (btw (lo1, lo2) (hi1, hi2))).map sw = m at LO hl2 HEQ
      go_wp2_with fail
      refine (sorted_l LO.out hl2).mono ?_
      rintro e w2 ⟨⟨v2, rfl, ho2⟩, U2⟩
      have hul := uniq_len false m
      have HU3 := Lib.hid (HU2.out.trans U2)
      generalize uniq false m = ys at ho2 hul HEQ
      obtain ⟨yp, yc, rfl, hvy⟩ := ho2.view
      have HY := Lib.hid hvy
      clear ho2 hvy U2 HU2 LO
      go_wp2_with fail
      go_loopw [10, 11] (fun u10 u11 wr => ∃ j : Nat, j ≤ ys.length ∧ u11 = .int .i64 j ∧ Own 34 wr w2.heap.size u10 ((ys.take j).map sw) ∧ Upd [] w2 wr) (fun _ u11 _ => ys.length - (intOf u11).toNat)
      case atStart => exact ⟨0, Nat.zero_le _, rfl, Own.nil _ _, Upd.refl _ _⟩
      case round =>
        obtain ⟨j, hj, rfl, hown, U4⟩ := hrel
        have hfl : ((ys.take j).map sw).length ≤ 1000000 := by
          rw [List.length_map, List.length_take]; omega
        have HFL := Lib.hid hfl
        have HO := Lib.hid hown
        clear hown hfl
        by_cases hjl : j < ys.length
        · obtain ⟨⟨a1, a2⟩, ha⟩ : ∃ a, ys[j]? = some a := ⟨ys[j], List.getElem?_eq_getElem hjl⟩
          obtain ⟨bx, ox, rfl, hbx2, hcx⟩ := HY.out.cells j _ ha
          obtain ⟨cy, cy'⟩ := hcx j _ ha
          change w2.cell? _ = some (.int .i64 a1) at cy
          change w2.cell? _ = some (.int .i64 a2) at cy'
          have ca : wr.cell? ⟨bx, ox + j * 2, none⟩ = some (.int .i64 a1) := (U4.cell (p := ⟨bx, ox + j * 2, none⟩) hbx2 (by simp)).trans cy
          have ca' : wr.cell? ⟨bx, ox + j * 2 + 1, none⟩ = some (.int .i64 a2) := (U4.cell (p := ⟨bx, ox + j * 2 + 1, none⟩) hbx2 (by simp)).trans cy'
          have hbx := Nat.lt_of_lt_of_le hbx2 U4.size
          have HCY := Lib.hid cy
          have HCY' := Lib.hid cy'
          have hmn := map_next ys j (a1, a2) ha
          have hfl2 := HFL.out
          generalize (ys.take j).map sw = dn at HO hfl2 hmn
          have HMN := Lib.hid hmn
          clear hcx ha cy cy' hmn HFL
          go_wp2_with fail
          go_region_held3 (fun w' => w'.cell? ⟨bx, ox + j * 2, none⟩ = some (.int .i64 a1) ∧ w'.cell? ⟨bx, ox + j * 2 + 1, none⟩ = some (.int .i64 a2)) (first | exact ⟨ca, ca'⟩ | exact ⟨(((Upd.refl [] wr).alloc _).cell (p := ⟨bx, ox + j * 2, none⟩) hbx (by simp)).trans ca, (((Upd.refl [] wr).alloc _).cell (p := ⟨bx, ox + j * 2 + 1, none⟩) hbx (by simp)).trans ca'⟩ | exact S8)
            (first | (refine step_append_one ty30 (u := sw (a1, a2)) rfl (.tmp 64) (.tmp 76) rfl w2.heap.size u10 dn wr.heap.size 1 (by rfl) (by rfl) (oneAt_sw1 _ _ _ _) (HO.out.kept ((Upd.refl [] wr).alloc (.cells #[.int .i64 a2, .int .i64 a1] 34)).drew (by simp)) (U4.alloc _).size (by omega) ?_; intro g8 cap8 w3 ho3 hg8 hm8; have U5 : Upd [] w2 w3 := own_grown (HO.out.kept ((Upd.refl [] wr).alloc (.cells #[.int .i64 a2, .int .i64 a1] 34)).drew (by simp)) hg8 ((U4.alloc _).drew) (Nat.le_refl _); have S8 : w3.cell? ⟨bx, ox + j * 2, none⟩ = some (.int .i64 a1) ∧ w3.cell? ⟨bx, ox + j * 2 + 1, none⟩ = some (.int .i64 a2) := ⟨(U5.cell (p := ⟨bx, ox + j * 2, none⟩) hbx2 (by simp)).trans HCY.out, (U5.cell (p := ⟨bx, ox + j * 2 + 1, none⟩) hbx2 (by simp)).trans HCY'.out⟩))
          have HO3 := Lib.hid ho3
          have HU5 := Lib.hid U5
          clear S8 ho3 U5 hg8 hm8 U4 ca ca'
          go_wp2_with fail
          go_roundw
          case rel => exact ⟨j + 1, by omega, by go_num, by rw [HMN.out]; exact HO3.out, HU5.out⟩
          case measure => simp [intOf]; omega
        · have hje : j = ys.length := by omega
          subst hje
          rw [List.take_length] at HO
          go_wp2_with fail
          exact bodyPost_ret (v := u10) (by simp [results, Try.results17, go_sem]) rfl ⟨⟨_, rfl, by rw [← HEQ.out]; exact HO.out.mono (by have := HU3.out.size; omega)⟩, HU3.out.trans U4⟩

end Go.Proofs.Ytpoogkgekeocbaa
