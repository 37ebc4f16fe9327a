/- up, down, Push. -/
import Derived.Test.YtgeaboahccfdcaaB
namespace Go.Proofs.Ytgeaboahccfdcaa
open Go.RowKit

theorem before_at (t : Bool) (h : Nat) (v : Value) (xs : List Int) (i k : Nat) (a b : Int) (w : World) (H : HeapAt w t h v xs) (hi : i < xs.length) (hk : k < xs.length) (ha : a = i) (hb : b = k) :
    Calls Try.prog 24 #[.pointer (some ⟨h, 0, none⟩), .int .i64 a, .int .i64 b] w fun e w' => e = .returned (.bool (bef t (nth xs i) (nth xs k))) ∧ Upd [] w w' := by
  subst ha hb
  exact before_any t h v xs i k w H hi hk

theorem swap_at (t : Bool) (h : Nat) (v : Value) (xs : List Int) (i k : Nat) (a b : Int) (w : World) (H : HeapAt w t h v xs) (hi : i < xs.length) (hk : k < xs.length) (ha : a = i) (hb : b = k) :
    Calls Try.prog 26 #[.pointer (some ⟨h, 0, none⟩), .int .i64 a, .int .i64 b] w fun e w' => (∃ r, e = .returned r) ∧ HeapAt w' t h v (swp xs i k) ∧ Upd v.ownBlock.toList w w' := by
  subst ha hb
  exact swap_any t h v xs i k w H hi hk

set_option maxHeartbeats 1000000 in
theorem up_any (t : Bool) (h : Nat) (v : Value) (xs : List Int) (i : Nat) (a : Int) (w : World) (H : HeapAt w t h v xs) (hu : Up t i xs) (ha : a = i) :
    Calls Try.prog 25 #[.pointer (some ⟨h, 0, none⟩), .int .i64 a] w fun e w' => (∃ r, e = .returned r) ∧ (∃ ys, HeapAt w' t h v ys ∧ IsHeap t ys ∧ ys.Perm xs) ∧ Upd v.ownBlock.toList w w' := by
  subst ha
  have HH := Lib.hid H
  have HU := Lib.hid hu
  clear H hu
  go_enter Try.func25, Try.ntmps25
  go_wp2_with fail
  go_loopw [1] (fun u1 wr => ∃ (i : Nat) (ys : List Int), u1 = .int .i64 i ∧ Up t i ys ∧ HeapAt wr t h v ys ∧ ys.Perm xs ∧ Upd v.ownBlock.toList w wr) (fun u1 _ => (intOf u1).toNat)
  case atStart => exact ⟨i, xs, rfl, HU.out, HH.out, List.Perm.refl _, Upd.refl _ _⟩
  case round =>
    obtain ⟨i, ys, rfl, hu, H, hp, U0⟩ := hrel
    have hil := hu.lt
    have hlen := H.len
    have HU2 := Lib.hid hu
    have HP := Lib.hid hp
    clear hu hp HH HU
    by_cases h0 : 0 < i
    · obtain ⟨j, rfl⟩ : ∃ j, i = j + 1 := ⟨i - 1, by omega⟩
      have e1 : (j : Int).tdiv 2 = ((j / 2 : Nat) : Int) := rfl
      have ep : (j + 1 - 1) / 2 = j / 2 := by rw [Nat.add_sub_cancel]
      have hgz : decide ((0 : Int) < ((j : Int) + 1)) = true := decide_eq_true (by omega)
      generalize hq : j / 2 = q at e1 ep
      have hqj : q ≤ j := by omega
      have HQ := Lib.hid hq
      clear hq
      go_wp2_with fail
      refine (before_at t h v ys (j + 1) q _ _ wr H hil (by omega) (by omega) (by omega)).mono ?_
      rintro e w1 ⟨rfl, U1⟩
      have H1 := H.upd U1 (by simp)
      have U2 := U0.trans (U1.mono (by simp))
      clear H U0 U1
      cases hb : bef t (nth ys (j + 1)) (nth ys q) with
      | false =>
        go_wp2_with fail
        go_end0
        refine ⟨⟨_, rfl⟩, ⟨ys, H1, HU2.out.done (.inr ?_), HP.out⟩, U2⟩
        rw [ep]
        unfold bef at hb
        rw [decide_eq_false_iff_not] at hb
        omega
      | true =>
        have hst := HU2.out.step (by omega) (by rw [ep]; unfold bef at hb; exact of_decide_eq_true hb)
        rw [ep] at hst
        have hsp := swp_perm (l := ys) (i := j + 1) (k := q) hil (by omega)
        have HST := Lib.hid hst
        have HSP := Lib.hid hsp
        clear hb hst hsp
        go_wp2_with fail
        refine (swap_at t h v ys (j + 1) q _ _ w1 H1 hil (by omega) (by omega) (by omega)).mono ?_
        rintro e w2 ⟨⟨r, rfl⟩, H2, U3⟩
        have U4 := U2.trans U3
        clear H1 U2 U3
        go_wp2_with fail
        go_roundw
        case rel => exact ⟨q, _, rfl, HST.out, H2, HSP.out.trans HP.out, U4⟩
        case measure => simp [intOf]; omega
    · have hi0 : i = 0 := by omega
      subst hi0
      go_wp2_with fail
      go_end0
      exact ⟨⟨_, rfl⟩, ⟨ys, H, HU2.out.done (.inl rfl), HP.out⟩, U0⟩

set_option maxHeartbeats 1000000 in
theorem down_any (t : Bool) (h : Nat) (v : Value) (xs : List Int) (s i : Nat) (a : Int) (w : World) (H : HeapAt w t h v xs) (hd : Down t s i xs) (ha : a = i) (hi : i ≤ 1000000) :
    Calls Try.prog 22 #[.pointer (some ⟨h, 0, none⟩), .int .i64 a] w fun e w' => (∃ r, e = .returned r) ∧ (∃ ys, HeapAt w' t h v ys ∧ HeapFrom t s ys ∧ ys.Perm xs) ∧ Upd v.ownBlock.toList w w' := by
  subst ha
  have HH := Lib.hid H
  have HU := Lib.hid hd
  have hi0 := hi
  clear H hd hi
  go_enter Try.func22, Try.ntmps22
  go_wp2_with fail
  go_loopw [1] (fun u1 wr => ∃ (i : Nat) (ys : List Int), u1 = .int .i64 i ∧ i ≤ 1000000 ∧ Down t s i ys ∧ HeapAt wr t h v ys ∧ ys.Perm xs ∧ Upd v.ownBlock.toList w wr) (fun u1 _ => 1000001 - (intOf u1).toNat)
  case atStart => exact ⟨i, xs, rfl, hi0, HU.out, HH.out, List.Perm.refl _, Upd.refl _ _⟩
  case round =>
    clear hi0
    obtain ⟨i, ys, rfl, hi, hd, H, hp, U0⟩ := hrel
    have hlen := H.len
    have HD := Lib.hid hd
    have HP := Lib.hid hp
    have H0 := Lib.hid H
    clear hd hp HH HU H
    obtain ⟨W1, hW1⟩ : ∃ W, W = wr := ⟨_, rfl⟩
    subst hW1
    go_wp2_with fail
    go_loopw [4, 5] (fun u4 u5 wq => ∃ b k : Nat, u4 = .int .i64 b ∧ u5 = .int .i64 k ∧ 2 * i + 1 ≤ k ∧ k ≤ 2 * i + 3 ∧ Best t ys i k b ∧ HeapAt wq t h v ys ∧ Upd v.ownBlock.toList w wq) (fun _ u5 _ => 2 * i + 3 - (intOf u5).toNat)
    case atStart => exact ⟨i, 2 * i + 1, rfl, by go_num, Nat.le_refl _, by omega, Best.start _ _ _, H0.out, U0⟩
    case round =>
      clear H0 U0
      obtain ⟨b, k, rfl, rfl, hk1, hk2, hb, H, U1⟩ := hrel
      have HB := Lib.hid hb
      have hbo := hb.or
      have hbb : b ≤ 1000000 := by rcases hbo with h | h <;> omega
      have c1 := H.c1
      obtain ⟨vp, vc, rfl, _⟩ := H.own.view
      have hc : (2 * (i : Int) + 2 < (k : Int)) ∨ ((ys.length : Int) ≤ (k : Int)) ∨ (k ≤ 2 * i + 2 ∧ k < ys.length) := by omega
      clear hb
      by_cases hin : k ≤ 2 * i + 2 ∧ k < ys.length
      · have q1 : decide ((k : Int) ≤ 2 * (i : Int) + 2) = true := decide_eq_true (by omega)
        have q2 : decide ((k : Int) < (ys.length : Int)) = true := decide_eq_true (by omega)
        have hbl : b < ys.length := by rcases hbo with h | h <;> omega
        clear hc hbo
        go_wp2_with fail
        refine (before_at t h _ ys k b _ _ wr H hin.2 hbl rfl rfl).mono ?_
        rintro e w1 ⟨rfl, U2⟩
        have H1 := H.upd U2 (by simp)
        have U3 := U1.trans (U2.mono (by simp))
        clear H U1 U2 c1
        cases hbf : bef t (nth ys k) (nth ys b) with
        | false =>
          have hkp := HB.out.keep (by unfold bef at hbf; rw [decide_eq_false_iff_not] at hbf; omega)
          have HK := Lib.hid hkp
          clear hbf hkp
          go_wp2_with fail
          go_roundw
          case rel => exact ⟨b, k + 1, rfl, by go_num, by omega, by omega, HK.out, H1, U3⟩
          case measure => simp [intOf]; omega
        | true =>
          have hkp := HB.out.take hk1 hin.2 (by unfold bef at hbf; exact of_decide_eq_true hbf)
          have HK := Lib.hid hkp
          clear hbf hkp
          go_wp2_with fail
          go_roundw
          case rel => exact ⟨k, k + 1, rfl, by go_num, by omega, by omega, HK.out, H1, U3⟩
          case measure => simp [intOf]; omega
      · have hend : 2 * i + 2 < k ∨ ys.length ≤ k := by omega
        by_cases hbi : b = i
        · subst hbi
          have hdn := HD.out.done HB.out hend
          have HDN := Lib.hid hdn
          have hbe : ((b : Int) == (b : Int)) = true := by simp
          clear hdn hbo hend
          by_cases hk3 : k ≤ 2 * b + 2
          · have q1 : decide ((k : Int) ≤ 2 * (b : Int) + 2) = true := decide_eq_true (by omega)
            have q2 : decide ((k : Int) < (ys.length : Int)) = false := decide_eq_false (by omega)
            clear hc
            go_wp2_with fail
            refine bodyPost_ret (results_none rfl _ _ _) rfl ?_
            exact ⟨⟨_, rfl⟩, ⟨ys, H, HDN.out, HP.out⟩, U1⟩
          · have q1 : decide ((k : Int) ≤ 2 * (b : Int) + 2) = false := decide_eq_false (by omega)
            clear hc
            go_wp2_with fail
            refine bodyPost_ret (results_none rfl _ _ _) rfl ?_
            exact ⟨⟨_, rfl⟩, ⟨ys, H, HDN.out, HP.out⟩, U1⟩
        · obtain ⟨b1, b2, b3, b4⟩ : 2 * i + 1 ≤ b ∧ b < k ∧ b < ys.length ∧ kd t (nth ys b) < kd t (nth ys i) := by
            rcases hbo with h | h
            · exact absurd h hbi
            · exact h
          have hst := HD.out.step HB.out hend hbi (by omega)
          have hsp := swp_perm (l := ys) (i := i) (k := b) (by omega) b3
          have HST := Lib.hid hst
          have HSP := Lib.hid hsp
          have hbe : ((b : Int) == (i : Int)) = false := by simp only [beq_eq_false_iff_ne, ne_eq]; omega
          clear hst hsp hbo hend b4
          by_cases hk3 : k ≤ 2 * i + 2
          · have q1 : decide ((k : Int) ≤ 2 * (i : Int) + 2) = true := decide_eq_true (by omega)
            have q2 : decide ((k : Int) < (ys.length : Int)) = false := decide_eq_false (by omega)
            clear hc
            go_wp2_with fail
            refine (swap_at t h _ ys i b _ _ wr H (by omega) b3 rfl rfl).mono ?_
            rintro e w2 ⟨⟨r, rfl⟩, H2, U3⟩
            have U4 := U1.trans U3
            clear H U1 U3 c1
            go_wp2_with fail
            go_roundw
            case rel => exact ⟨b, _, rfl, by omega, HST.out, H2, HSP.out.trans HP.out, U4⟩
            case measure => simp [intOf]; omega
          · have q1 : decide ((k : Int) ≤ 2 * (i : Int) + 2) = false := decide_eq_false (by omega)
            clear hc
            go_wp2_with fail
            refine (swap_at t h _ ys i b _ _ wr H (by omega) b3 rfl rfl).mono ?_
            rintro e w2 ⟨⟨r, rfl⟩, H2, U3⟩
            have U4 := U1.trans U3
            clear H U1 U3 c1
            go_wp2_with fail
            go_roundw
            case rel => exact ⟨b, _, rfl, by omega, HST.out, H2, HSP.out.trans HP.out, U4⟩
            case measure => simp [intOf]; omega

end Go.Proofs.Ytgeaboahccfdcaa
