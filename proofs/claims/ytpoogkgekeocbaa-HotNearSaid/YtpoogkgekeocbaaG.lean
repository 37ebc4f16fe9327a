/- Find of points. -/
import Derived.Test.YtpoogkgekeocbaaF
namespace Go.Proofs.Ytpoogkgekeocbaa
open Go.RowKit

set_option maxHeartbeats 2000000 in
theorem find_any (p : Option Addr) (c : Nat) (xs : List Pt) (v : Pt) (w : World) (hx : View w p c xs) (hn : xs.length ≤ 1048576) (hs : Sorted false xs) :
    Calls Try.prog 30 #[.slice p xs.length c, pv v, .func (.func 23) #[] #[]] w fun e w' => (∃ n : Nat, e = .returned (.tuple #[.int .i64 n, .bool (isAt xs v n)]) ∧ At xs v n) ∧ Upd [] w w' := by
  obtain ⟨v1, v2⟩ := v
  have rq0 := IsRow.new w [.int .i64 v1, .int .i64 v2] 24
  have U00 : Upd [] w (w.alloc (.cells #[.int .i64 v1, .int .i64 v2] 24)) := (Upd.refl [] w).alloc _
  have HX := Lib.hid (hx.upd U00)
  have HS := Lib.hid hs
  obtain ⟨q, hq⟩ : ∃ z, z = w.heap.size := ⟨_, rfl⟩
  rw [← hq] at rq0
  have HQ := Lib.hid hq
  show Calls Try.prog 30 #[.slice p xs.length c, .agg #[.int .i64 v1, .int .i64 v2], .func (.func 23) #[] #[]] w _
  clear hx hs
  have HRQ := Lib.hid rq0
  have HU0 := Lib.hid U00
  clear rq0 U00
  go_enter Try.func30, Try.ntmps30
  go_wp2_with fail
  rw [← hq]
  have rq0 := HRQ.out
  have U00 := HU0.out
  clear hq HQ HRQ HU0
  generalize w.alloc (.cells #[.int .i64 v1, .int .i64 v2] 24) = w0 at HX rq0 U00 ⊢
  go_loopw [8, 9] (fun u8 u9 wr => ∃ lo hi : Nat, u8 = .int .i64 lo ∧ u9 = .int .i64 hi ∧ Between xs (v1, v2) lo hi ∧ Upd [] w0 wr) (fun u8 u9 _ => (intOf u9).toNat - (intOf u8).toNat)
  case atStart => exact ⟨0, xs.length, rfl, rfl, ⟨Nat.zero_le _, Nat.le_refl _, fun i a h => absurd h (Nat.not_lt_zero _), fun i a h ha => by have := (List.getElem?_eq_some_iff.1 ha).1; omega⟩, Upd.refl _ _⟩
  case round =>
    obtain ⟨lo, hi, rfl, rfl, hb, U0⟩ := hrel
    have hle := hb.le
    have hlen := hb.len
    have HB := Lib.hid hb
    have rq := rq0.upd U0 (by simp)
    have d0 : wr.cell? ⟨q, 0, none⟩ = some (.int .i64 v1) := rq.cell 0
    have d1 : wr.cell? ⟨q, 1, none⟩ = some (.int .i64 v2) := rq.cell 1
    have hql := rq.lt
    clear hb
    by_cases hlt : lo < hi
    · have e1 : ((hi : Int) - (lo : Int)).tdiv 2 = (((hi - lo) / 2 : Nat) : Int) := by
        rw [← Int.natCast_sub hle]; rfl
      generalize hm : (hi - lo) / 2 = m at e1
      have hmb : lo + m < hi := by omega
      obtain ⟨x, hxm⟩ : ∃ x, xs[lo + m]? = some x := ⟨xs[lo + m], List.getElem?_eq_getElem (by omega)⟩
      obtain ⟨bx, ox, rfl, hbx, hcx⟩ := (HX.out.upd U0).cells (lo + m) x hxm
      obtain ⟨cx, cx'⟩ := hcx (lo + m) x hxm
      have z1 : (0 : Int) ≤ (lo : Int) + (m : Int) := by omega
      have z2 : (lo : Int) + (m : Int) < (xs.length : Int) := by omega
      have e2 : ((lo : Int) + (m : Int)).toNat = lo + m := by omega
      have HXM := Lib.hid hxm
      have HM := Lib.hid hm
      clear hcx hxm hm rq
      by_cases hk : ltP false x (v1, v2)
      · have ht : decide (ordP false x (v1, v2) < 0) = true := decide_eq_true (ordP_lt.2 hk)
        have HK := Lib.hid hk
        clear hk
        go_wp2_with fail
        go_region_held3 (fun w' => w'.cell? ⟨q, 0, none⟩ = some (.int .i64 v1) ∧ w'.cell? ⟨q, 1, none⟩ = some (.int .i64 v2) ∧ w'.cell? ⟨bx, ox + (lo + m) * 2, none⟩ = some (Enc.c0 x) ∧ w'.cell? ⟨bx, ox + (lo + m) * 2 + 1, none⟩ = some (Enc.c1 x)) (first | exact ⟨d0, d1, cx, cx'⟩ | exact S9)
          (first | (go_at_call 23; refine (cmp_any x (v1, v2) _).mono ?_; rintro e w9 ⟨rfl, U9⟩; have S9 : w9.cell? ⟨q, 0, none⟩ = some (.int .i64 v1) ∧ w9.cell? ⟨q, 1, none⟩ = some (.int .i64 v2) ∧ w9.cell? ⟨bx, ox + (lo + m) * 2, none⟩ = some (Enc.c0 x) ∧ w9.cell? ⟨bx, ox + (lo + m) * 2 + 1, none⟩ = some (Enc.c1 x) := ⟨(U9.cell (p := ⟨q, 0, none⟩) hql (by simp)).trans d0, (U9.cell (p := ⟨q, 1, none⟩) hql (by simp)).trans d1, (U9.cell (p := ⟨bx, ox + (lo + m) * 2, none⟩) hbx (by simp)).trans cx, (U9.cell (p := ⟨bx, ox + (lo + m) * 2 + 1, none⟩) hbx (by simp)).trans cx'⟩))
        have U2 : Upd [] w0 w9 := U0.drew.trans U9
        clear U0 U9 S9 d0 d1 cx cx'
        go_wp2_with fail
        go_roundw
        case rel => exact ⟨lo + m + 1, hi, by go_num, rfl, HB.out.up HS.out hmb HXM.out HK.out, U2⟩
        case measure => simp [intOf]; omega
      · have ht : decide (ordP false x (v1, v2) < 0) = false := decide_eq_false (fun e => hk (ordP_lt.1 e))
        have HK := Lib.hid hk
        clear hk
        go_wp2_with fail
        go_region_held3 (fun w' => w'.cell? ⟨q, 0, none⟩ = some (.int .i64 v1) ∧ w'.cell? ⟨q, 1, none⟩ = some (.int .i64 v2) ∧ w'.cell? ⟨bx, ox + (lo + m) * 2, none⟩ = some (Enc.c0 x) ∧ w'.cell? ⟨bx, ox + (lo + m) * 2 + 1, none⟩ = some (Enc.c1 x)) (first | exact ⟨d0, d1, cx, cx'⟩ | exact S9)
          (first | (go_at_call 23; refine (cmp_any x (v1, v2) _).mono ?_; rintro e w9 ⟨rfl, U9⟩; have S9 : w9.cell? ⟨q, 0, none⟩ = some (.int .i64 v1) ∧ w9.cell? ⟨q, 1, none⟩ = some (.int .i64 v2) ∧ w9.cell? ⟨bx, ox + (lo + m) * 2, none⟩ = some (Enc.c0 x) ∧ w9.cell? ⟨bx, ox + (lo + m) * 2 + 1, none⟩ = some (Enc.c1 x) := ⟨(U9.cell (p := ⟨q, 0, none⟩) hql (by simp)).trans d0, (U9.cell (p := ⟨q, 1, none⟩) hql (by simp)).trans d1, (U9.cell (p := ⟨bx, ox + (lo + m) * 2, none⟩) hbx (by simp)).trans cx, (U9.cell (p := ⟨bx, ox + (lo + m) * 2 + 1, none⟩) hbx (by simp)).trans cx'⟩))
        have U2 : Upd [] w0 w9 := U0.drew.trans U9
        clear U0 U9 S9 d0 d1 cx cx'
        go_wp2_with fail
        go_roundw
        case rel => exact ⟨lo, lo + m, rfl, by go_num, HB.out.down HS.out (by omega) hmb HXM.out HK.out, U2⟩
        case measure => simp [intOf]; omega
    · have he : hi = lo := by omega
      subst he
      by_cases hll : hi < xs.length
      · obtain ⟨x, hxm⟩ : ∃ x, xs[hi]? = some x := ⟨xs[hi], List.getElem?_eq_getElem hll⟩
        obtain ⟨bx, ox, rfl, hbx, hcx⟩ := (HX.out.upd U0).cells hi x hxm
        obtain ⟨cx, cx'⟩ := hcx hi x hxm
        have z0 : (0 : Int) ≤ (hi : Int) := by omega
        have z1 : (hi : Int) < (xs.length : Int) := by omega
        have z2 : decide ((hi : Int) < (xs.length : Int)) = true := decide_eq_true z1
        have hia : (ordP false x (v1, v2) == 0) = isAt xs (v1, v2) hi := by
          unfold isAt
          rw [hxm]
          exact Bool.eq_iff_iff.2 (by simp only [beq_iff_eq, decide_eq_true_eq]; exact ordP_eq)
        have HIA := Lib.hid hia
        clear hcx hxm rq hia
        go_wp2_with fail
        go_region_held3 (fun w' => w'.cell? ⟨q, 0, none⟩ = some (.int .i64 v1) ∧ w'.cell? ⟨q, 1, none⟩ = some (.int .i64 v2) ∧ w'.cell? ⟨bx, ox + hi * 2, none⟩ = some (Enc.c0 x) ∧ w'.cell? ⟨bx, ox + hi * 2 + 1, none⟩ = some (Enc.c1 x)) (first | exact ⟨d0, d1, cx, cx'⟩ | exact S9)
          (first | (go_at_call 23; refine (cmp_any x (v1, v2) _).mono ?_; rintro e w9 ⟨rfl, U9⟩; have S9 : w9.cell? ⟨q, 0, none⟩ = some (.int .i64 v1) ∧ w9.cell? ⟨q, 1, none⟩ = some (.int .i64 v2) ∧ w9.cell? ⟨bx, ox + hi * 2, none⟩ = some (Enc.c0 x) ∧ w9.cell? ⟨bx, ox + hi * 2 + 1, none⟩ = some (Enc.c1 x) := ⟨(U9.cell (p := ⟨q, 0, none⟩) hql (by simp)).trans d0, (U9.cell (p := ⟨q, 1, none⟩) hql (by simp)).trans d1, (U9.cell (p := ⟨bx, ox + hi * 2, none⟩) hbx (by simp)).trans cx, (U9.cell (p := ⟨bx, ox + hi * 2 + 1, none⟩) hbx (by simp)).trans cx'⟩))
        have U2 : Upd [] w0 w9 := U0.drew.trans U9
        clear U0 U9 S9 d0 d1 cx cx'
        go_wp2_with fail
        exact bodyPost_ret (v := .tuple #[.int .i64 hi, .bool (ordP false x (v1, v2) == 0)]) (by simp [results, Try.results30, go_sem]) rfl ⟨⟨hi, by rw [HIA.out], ⟨hlen, HB.out.before, HB.out.after⟩⟩, U00.trans U2⟩
      · have hia : false = isAt xs (v1, v2) hi := by
          unfold isAt; rw [List.getElem?_eq_none (by omega)]
        have HIA := Lib.hid hia
        clear rq hia
        go_wp2_with fail
        go_quiet (fail)
        go_wp2_with fail
        exact bodyPost_ret (v := .tuple #[.int .i64 hi, .bool false]) (by simp [results, Try.results30, go_sem]) rfl ⟨⟨hi, by rw [← HIA.out], ⟨hlen, HB.out.before, HB.out.after⟩⟩, U00.trans (U0.drewN _)⟩

end Go.Proofs.Ytpoogkgekeocbaa
