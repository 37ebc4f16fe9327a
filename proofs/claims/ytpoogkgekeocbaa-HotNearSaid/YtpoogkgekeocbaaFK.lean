/- Find of numbers; Find of rows. -/
import Derived.Test.YtpoogkgekeocbaaM
namespace Go.Proofs.Ytpoogkgekeocbaa
open Go.RowKit

structure AtK (ks : List Int) (v : Int) (n : Nat) : Prop where
  le : n ≤ ks.length
  before : ∀ (i : Nat) (a : Int), i < n → ks[i]? = some a → a < v
  after : ∀ (i : Nat) (a : Int), n ≤ i → ks[i]? = some a → v ≤ a
structure BetweenK (ks : List Int) (v : Int) (lo hi : Nat) : Prop where
  le : lo ≤ hi
  len : hi ≤ ks.length
  before : ∀ (i : Nat) (a : Int), i < lo → ks[i]? = some a → a < v
  after : ∀ (i : Nat) (a : Int), hi ≤ i → ks[i]? = some a → v ≤ a
theorem up_pair {ks : List Int} (h : ks.Pairwise (· < ·)) {i j : Nat} {a b : Int} (hij : i < j) (ha : ks[i]? = some a) (hb : ks[j]? = some b) : a < b := by
  have hi := (List.getElem?_eq_some_iff.1 ha).1
  have hj := (List.getElem?_eq_some_iff.1 hb).1
  have := List.pairwise_iff_getElem.1 h i j hi hj hij
  rwa [(List.getElem?_eq_some_iff.1 ha).2, (List.getElem?_eq_some_iff.1 hb).2] at this
theorem BetweenK.up {ks : List Int} {v : Int} {lo hi m : Nat} (h : BetweenK ks v lo hi) (hs : ks.Pairwise (· < ·)) {x : Int} (hm : m < hi) (hx : ks[m]? = some x) (hlt : x < v) : BetweenK ks v (m + 1) hi := by
  refine ⟨hm, h.len, fun i a hi' ha => ?_, h.after⟩
  by_cases e : i = m
  · subst e; rw [hx] at ha; cases ha; exact hlt
  · have := up_pair hs (show i < m by omega) ha hx
    omega
theorem BetweenK.down {ks : List Int} {v : Int} {lo hi m : Nat} (h : BetweenK ks v lo hi) (hs : ks.Pairwise (· < ·)) {x : Int} (hl : lo ≤ m) (hm : m < hi) (hx : ks[m]? = some x) (hge : v ≤ x) : BetweenK ks v lo m := by
  refine ⟨hl, by have := h.len; omega, h.before, fun i a hi' ha => ?_⟩
  by_cases e : i = m
  · subst e; rw [hx] at ha; cases ha; omega
  · have := up_pair hs (show m < i by omega) hx ha
    omega
theorem BetweenK.start (ks : List Int) (v : Int) : BetweenK ks v 0 ks.length :=
  ⟨Nat.zero_le _, Nat.le_refl _, fun i a h => absurd h (Nat.not_lt_zero _), fun i a h ha => by have := (List.getElem?_eq_some_iff.1 ha).1; omega⟩
theorem cmpI_lt {a b : Int} : cmpI a b < 0 ↔ a < b := by
  unfold cmpI
  split
  · rename_i h; exact ⟨fun _ => h, fun _ => by omega⟩
  · split <;> exact ⟨fun h => by omega, fun h => by omega⟩

set_option maxHeartbeats 2000000 in
theorem findz_any (p : Option Addr) (c : Nat) (xs : List Int) (v : Int) (w : World) (hx : Z.View w p c xs) (hn : xs.length ≤ 1048576) (hs : xs.Pairwise (· < ·)) :
    Calls Try.prog 36 #[.slice p xs.length c, .int .i64 v, .func (.func 37) #[] #[]] w fun e w' => (∃ (n : Nat) (b : Bool), e = .returned (.tuple #[.int .i64 n, .bool b]) ∧ AtK xs v n) ∧ Upd [] w w' := by
  have HX := Lib.hid hx
  have HS := Lib.hid hs
  clear hx hs
  go_enter Try.func36, Try.ntmps36
  go_wp2_with fail
  go_loopw [8, 9] (fun u8 u9 wr => ∃ lo hi : Nat, u8 = .int .i64 lo ∧ u9 = .int .i64 hi ∧ BetweenK xs v lo hi ∧ Upd [] w wr) (fun u8 u9 _ => (intOf u9).toNat - (intOf u8).toNat)
  case atStart => exact ⟨0, xs.length, rfl, rfl, BetweenK.start _ _, Upd.refl _ _⟩
  case round =>
    obtain ⟨lo, hi, rfl, rfl, hb, U0⟩ := hrel
    have hle := hb.le
    have hlen := hb.len
    have HB := Lib.hid hb
    clear hb
    by_cases hlt : lo < hi
    · have e1 : ((hi : Int) - (lo : Int)).tdiv 2 = (((hi - lo) / 2 : Nat) : Int) := by
        rw [← Int.natCast_sub hle]; rfl
      generalize hm : (hi - lo) / 2 = m at e1
      have hmb : lo + m < hi := by omega
      obtain ⟨x, hxm⟩ : ∃ x, xs[lo + m]? = some x := ⟨xs[lo + m], List.getElem?_eq_getElem (by omega)⟩
      obtain ⟨bx, ox, rfl, hbx, hcx⟩ := (HX.out.upd U0).cells (lo + m) x hxm
      have cx := hcx (lo + m) x hxm
      have z1 : (0 : Int) ≤ (lo : Int) + (m : Int) := by omega
      have z2 : (lo : Int) + (m : Int) < (xs.length : Int) := by omega
      have e2 : ((lo : Int) + (m : Int)).toNat = lo + m := by omega
      have HXM := Lib.hid hxm
      have HM := Lib.hid hm
      clear hcx hxm hm
      by_cases hk : x < v
      · have ht : decide (cmpI x v < 0) = true := decide_eq_true (cmpI_lt.2 hk)
        have HK := Lib.hid hk
        clear hk
        go_wp2_with (go_at_call 37; refine (compare_any x v _).mono ?_; rintro e w9 ⟨rfl, rfl⟩)
        go_roundw
        case rel => exact ⟨lo + m + 1, hi, by go_num, rfl, HB.out.up HS.out hmb HXM.out HK.out, U0⟩
        case measure => simp [intOf]; omega
      · have ht : decide (cmpI x v < 0) = false := decide_eq_false (fun e => hk (cmpI_lt.1 e))
        have HK := Lib.hid hk
        clear hk
        go_wp2_with (go_at_call 37; refine (compare_any x v _).mono ?_; rintro e w9 ⟨rfl, rfl⟩)
        go_roundw
        case rel => exact ⟨lo, lo + m, rfl, by go_num, HB.out.down HS.out (by omega) hmb HXM.out HK.out, U0⟩
        case measure => simp [intOf]; omega
    · have he : hi = lo := by omega
      subst he
      by_cases hll : hi < xs.length
      · obtain ⟨x, hxm⟩ : ∃ x, xs[hi]? = some x := ⟨xs[hi], List.getElem?_eq_getElem hll⟩
        obtain ⟨bx, ox, rfl, hbx, hcx⟩ := (HX.out.upd U0).cells hi x hxm
        have cx := hcx hi x hxm
        have z0 : (0 : Int) ≤ (hi : Int) := by omega
        have z1 : (hi : Int) < (xs.length : Int) := by omega
        have z2 : decide ((hi : Int) < (xs.length : Int)) = true := decide_eq_true z1
        clear hcx hxm
        go_wp2_with (go_at_call 37; refine (compare_any x v _).mono ?_; rintro e w9 ⟨rfl, rfl⟩)
        exact bodyPost_ret (v := .tuple #[.int .i64 hi, .bool (cmpI x v == 0)]) (by simp [results, Try.results36, go_sem]) rfl ⟨⟨hi, _, rfl, ⟨hlen, HB.out.before, HB.out.after⟩⟩, U0⟩
      · go_wp2_with fail
        exact bodyPost_ret (v := .tuple #[.int .i64 hi, .bool false]) (by simp [results, Try.results36, go_sem]) rfl ⟨⟨hi, _, rfl, ⟨hlen, HB.out.before, HB.out.after⟩⟩, U0⟩

theorem byy_any (y1 y2 : Int) (p1 p2 : Option Addr) (n1 c1 n2 c2 : Nat) (w : World) :
    Calls Try.prog 35 #[.agg #[.int .i64 y1, .slice p1 n1 c1], .agg #[.int .i64 y2, .slice p2 n2 c2]] w fun e w' => e = .returned (.int .i64 (cmpI y1 y2)) ∧ Upd [] w w' := by
  go_enter Try.func35, Try.ntmps35
  go_wp2_with (go_at_call 37; refine (compare_any y1 y2 _).mono ?_; rintro e w9 ⟨rfl, rfl⟩)
  exact bodyPost_ret (v := .int .i64 (cmpI y1 y2)) (by simp [results, Try.results35, go_sem]) rfl ⟨rfl, ((Upd.refl [] w).alloc _).alloc _⟩

set_option maxHeartbeats 2000000 in
theorem findr_any (p : Option Addr) (c : Nat) (rv : List Rw) (v : Int) (w : World) (hx : View w p c rv) (hn : rv.length ≤ 1048576) (hs : (rv.map (·.y)).Pairwise (· < ·)) :
    Calls Try.prog 34 #[.slice p rv.length c, .agg #[.int .i64 v, .slice none 0 0], .func (.func 35) #[] #[]] w fun e w' => (∃ (n : Nat) (b : Bool), e = .returned (.tuple #[.int .i64 n, .bool b]) ∧ AtK (rv.map (·.y)) v n) ∧ Upd [] w w' := by
  have rq0 := IsRow.new w [.int .i64 v, .slice none 0 0] 68
  have U00 : Upd [] w (w.alloc (.cells #[.int .i64 v, .slice none 0 0] 68)) := (Upd.refl [] w).alloc _
  have HX := Lib.hid (hx.upd U00)
  have HS := Lib.hid hs
  obtain ⟨q, hq⟩ : ∃ z, z = w.heap.size := ⟨_, rfl⟩
  rw [← hq] at rq0
  have HQ := Lib.hid hq
  have HRQ := Lib.hid rq0
  have HU0 := Lib.hid U00
  clear hx hs rq0 U00
  go_enter Try.func34, Try.ntmps34
  go_wp2_with fail
  rw [← hq]
  have rq0 := HRQ.out
  have U00 := HU0.out
  clear hq HQ HRQ HU0
  generalize w.alloc (.cells #[.int .i64 v, .slice none 0 0] 68) = w0 at HX rq0 U00 ⊢
  go_loopw [8, 9] (fun u8 u9 wr => ∃ lo hi : Nat, u8 = .int .i64 lo ∧ u9 = .int .i64 hi ∧ BetweenK (rv.map (·.y)) v lo hi ∧ Upd [] w0 wr) (fun u8 u9 _ => (intOf u9).toNat - (intOf u8).toNat)
  case atStart => exact ⟨0, rv.length, rfl, rfl, by have := BetweenK.start (rv.map (·.y)) v; rwa [List.length_map] at this, Upd.refl _ _⟩
  case round =>
    obtain ⟨lo, hi, rfl, rfl, hb, U0⟩ := hrel
    have hle := hb.le
    have hlen := hb.len
    rw [List.length_map] at hlen
    have HLEN := Lib.hid hb.len
    have HB := Lib.hid hb
    have rq := rq0.upd U0 (by simp)
    have d0 : wr.cell? ⟨q, 0, none⟩ = some (.int .i64 v) := rq.cell 0
    have d1 : wr.cell? ⟨q, 1, none⟩ = some (.slice none 0 0) := rq.cell 1
    have hql := rq.lt
    clear hb
    by_cases hlt : lo < hi
    · have e1 : ((hi : Int) - (lo : Int)).tdiv 2 = (((hi - lo) / 2 : Nat) : Int) := by
        rw [← Int.natCast_sub hle]; rfl
      generalize hm : (hi - lo) / 2 = m at e1
      have hmb : lo + m < hi := by omega
      obtain ⟨⟨x, xp, xn, xc⟩, hxm⟩ : ∃ x, rv[lo + m]? = some x := ⟨rv[lo + m]'(by omega), List.getElem?_eq_getElem _⟩
      obtain ⟨bx, ox, rfl, hbx, hcx⟩ := (HX.out.upd U0).cells (lo + m) _ hxm
      obtain ⟨cx, cx'⟩ := hcx (lo + m) _ hxm
      change wr.cell? _ = some (.int .i64 x) at cx
      change wr.cell? _ = some (.slice xp xn xc) at cx'
      have hkm : (rv.map (·.y))[lo + m]? = some x := by rw [List.getElem?_map, hxm]; rfl
      have z1 : (0 : Int) ≤ (lo : Int) + (m : Int) := by omega
      have z2 : (lo : Int) + (m : Int) < (rv.length : Int) := by omega
      have e2 : ((lo : Int) + (m : Int)).toNat = lo + m := by omega
      have HXM := Lib.hid hkm
      have HM := Lib.hid hm
      clear hcx hxm hkm hm rq
      by_cases hk : x < v
      · have ht : decide (cmpI x v < 0) = true := decide_eq_true (cmpI_lt.2 hk)
        have HK := Lib.hid hk
        clear hk
        go_wp2_with fail
        go_region_held3 (fun w' => w'.cell? ⟨q, 0, none⟩ = some (.int .i64 v) ∧ w'.cell? ⟨q, 1, none⟩ = some (.slice none 0 0) ∧ w'.cell? ⟨bx, ox + (lo + m) * 2, none⟩ = some (.int .i64 x) ∧ w'.cell? ⟨bx, ox + (lo + m) * 2 + 1, none⟩ = some (.slice xp xn xc)) (first | exact ⟨d0, d1, cx, cx'⟩ | exact S9)
          (first | (go_at_call 35; refine (byy_any x v xp none xn xc 0 0 _).mono ?_; rintro e w9 ⟨rfl, U9⟩; have S9 : w9.cell? ⟨q, 0, none⟩ = some (.int .i64 v) ∧ w9.cell? ⟨q, 1, none⟩ = some (.slice none 0 0) ∧ w9.cell? ⟨bx, ox + (lo + m) * 2, none⟩ = some (.int .i64 x) ∧ w9.cell? ⟨bx, ox + (lo + m) * 2 + 1, none⟩ = some (.slice xp xn xc) := ⟨(U9.cell (p := ⟨q, 0, none⟩) hql (by simp)).trans d0, (U9.cell (p := ⟨q, 1, none⟩) hql (by simp)).trans d1, (U9.cell (p := ⟨bx, ox + (lo + m) * 2, none⟩) hbx (by simp)).trans cx, (U9.cell (p := ⟨bx, ox + (lo + m) * 2 + 1, none⟩) hbx (by simp)).trans cx'⟩))
        have U2 : Upd [] w0 w9 := U0.drew.trans U9
        clear U0 U9 S9 d0 d1 cx cx'
        go_wp2_with fail
        go_roundw
        case rel => exact ⟨lo + m + 1, hi, by go_num, rfl, HB.out.up HS.out hmb HXM.out HK.out, U2⟩
        case measure => simp [intOf]; omega
      · have ht : decide (cmpI x v < 0) = false := decide_eq_false (fun e => hk (cmpI_lt.1 e))
        have HK := Lib.hid hk
        clear hk
        go_wp2_with fail
        go_region_held3 (fun w' => w'.cell? ⟨q, 0, none⟩ = some (.int .i64 v) ∧ w'.cell? ⟨q, 1, none⟩ = some (.slice none 0 0) ∧ w'.cell? ⟨bx, ox + (lo + m) * 2, none⟩ = some (.int .i64 x) ∧ w'.cell? ⟨bx, ox + (lo + m) * 2 + 1, none⟩ = some (.slice xp xn xc)) (first | exact ⟨d0, d1, cx, cx'⟩ | exact S9)
          (first | (go_at_call 35; refine (byy_any x v xp none xn xc 0 0 _).mono ?_; rintro e w9 ⟨rfl, U9⟩; have S9 : w9.cell? ⟨q, 0, none⟩ = some (.int .i64 v) ∧ w9.cell? ⟨q, 1, none⟩ = some (.slice none 0 0) ∧ w9.cell? ⟨bx, ox + (lo + m) * 2, none⟩ = some (.int .i64 x) ∧ w9.cell? ⟨bx, ox + (lo + m) * 2 + 1, none⟩ = some (.slice xp xn xc) := ⟨(U9.cell (p := ⟨q, 0, none⟩) hql (by simp)).trans d0, (U9.cell (p := ⟨q, 1, none⟩) hql (by simp)).trans d1, (U9.cell (p := ⟨bx, ox + (lo + m) * 2, none⟩) hbx (by simp)).trans cx, (U9.cell (p := ⟨bx, ox + (lo + m) * 2 + 1, none⟩) hbx (by simp)).trans cx'⟩))
        have U2 : Upd [] w0 w9 := U0.drew.trans U9
        clear U0 U9 S9 d0 d1 cx cx'
        go_wp2_with fail
        go_roundw
        case rel => exact ⟨lo, lo + m, rfl, by go_num, HB.out.down HS.out (by omega) hmb HXM.out HK.out, U2⟩
        case measure => simp [intOf]; omega
    · have he : hi = lo := by omega
      subst he
      by_cases hll : hi < rv.length
      · obtain ⟨⟨x, xp, xn, xc⟩, hxm⟩ : ∃ x, rv[hi]? = some x := ⟨rv[hi], List.getElem?_eq_getElem hll⟩
        obtain ⟨bx, ox, rfl, hbx, hcx⟩ := (HX.out.upd U0).cells hi _ hxm
        obtain ⟨cx, cx'⟩ := hcx hi _ hxm
        change wr.cell? _ = some (.int .i64 x) at cx
        change wr.cell? _ = some (.slice xp xn xc) at cx'
        have z0 : (0 : Int) ≤ (hi : Int) := by omega
        have z1 : (hi : Int) < (rv.length : Int) := by omega
        have z2 : decide ((hi : Int) < (rv.length : Int)) = true := decide_eq_true z1
        clear hcx hxm rq
        go_wp2_with fail
        go_region_held3 (fun w' => w'.cell? ⟨q, 0, none⟩ = some (.int .i64 v) ∧ w'.cell? ⟨q, 1, none⟩ = some (.slice none 0 0) ∧ w'.cell? ⟨bx, ox + hi * 2, none⟩ = some (.int .i64 x) ∧ w'.cell? ⟨bx, ox + hi * 2 + 1, none⟩ = some (.slice xp xn xc)) (first | exact ⟨d0, d1, cx, cx'⟩ | exact S9)
          (first | (go_at_call 35; refine (byy_any x v xp none xn xc 0 0 _).mono ?_; rintro e w9 ⟨rfl, U9⟩; have S9 : w9.cell? ⟨q, 0, none⟩ = some (.int .i64 v) ∧ w9.cell? ⟨q, 1, none⟩ = some (.slice none 0 0) ∧ w9.cell? ⟨bx, ox + hi * 2, none⟩ = some (.int .i64 x) ∧ w9.cell? ⟨bx, ox + hi * 2 + 1, none⟩ = some (.slice xp xn xc) := ⟨(U9.cell (p := ⟨q, 0, none⟩) hql (by simp)).trans d0, (U9.cell (p := ⟨q, 1, none⟩) hql (by simp)).trans d1, (U9.cell (p := ⟨bx, ox + hi * 2, none⟩) hbx (by simp)).trans cx, (U9.cell (p := ⟨bx, ox + hi * 2 + 1, none⟩) hbx (by simp)).trans cx'⟩))
        have U2 : Upd [] w0 w9 := U0.drew.trans U9
        clear U0 U9 S9 d0 d1 cx cx'
        go_wp2_with fail
        exact bodyPost_ret (v := .tuple #[.int .i64 hi, .bool (cmpI x v == 0)]) (by simp [results, Try.results34, go_sem]) rfl ⟨⟨hi, _, rfl, ⟨HLEN.out, HB.out.before, HB.out.after⟩⟩, U00.trans U2⟩
      · have z2 : decide ((hi : Int) < (rv.length : Int)) = false := decide_eq_false (by omega)
        clear rq
        go_wp2_with fail
        go_quiet (fail)
        go_wp2_with fail
        exact bodyPost_ret (v := .tuple #[.int .i64 hi, .bool false]) (by simp [results, Try.results34, go_sem]) rfl ⟨⟨hi, _, rfl, ⟨HLEN.out, HB.out.before, HB.out.after⟩⟩, U00.trans (U0.drewN _)⟩

end Go.Proofs.Ytpoogkgekeocbaa
