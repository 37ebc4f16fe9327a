/- Find. -/
import Derived.Test.YtkfolfkgjpcmiaaF
namespace Go.Proofs.Ytkfolfkgjpcmiaa
open Go.RowKit

/-- n is the place of v -/
structure At (xs : List Int) (v : Int) (n : Nat) : Prop where
  le : n ≤ xs.length
  before : ∀ i a, i < n → xs[i]? = some a → key a < key v
  after : ∀ i a, n ≤ i → xs[i]? = some a → key v ≤ key a

theorem At.unique {xs : List Int} {v : Int} {n m : Nat} (h : At xs v n) (g : At xs v m) : n = m := by
  rcases Nat.lt_trichotomy n m with hlt | he | hlt
  · have hl := g.le
    have h1 := g.before n _ hlt (List.getElem?_eq_getElem (by omega))
    have h2 := h.after n _ (Nat.le_refl _) (List.getElem?_eq_getElem (by omega))
    omega
  · exact he
  · have hl := h.le
    have h1 := h.before m _ hlt (List.getElem?_eq_getElem (by omega))
    have h2 := g.after m _ (Nat.le_refl _) (List.getElem?_eq_getElem (by omega))
    omega

/-- the part that is left to look through -/
structure Between (xs : List Int) (v : Int) (lo hi : Nat) : Prop where
  le : lo ≤ hi
  len : hi ≤ xs.length
  before : ∀ i a, i < lo → xs[i]? = some a → key a < key v
  after : ∀ i a, hi ≤ i → xs[i]? = some a → key v ≤ key a

theorem Between.up {xs : List Int} {v : Int} {lo hi m : Nat} (h : Between xs v lo hi) (hs : Sorted key xs) {x : Int} (hm : m < hi) (hx : xs[m]? = some x) (hlt : key x < key v) : Between xs v (m + 1) hi := by
  refine ⟨hm, h.len, fun i a hi' ha => ?_, h.after⟩
  by_cases e : i = m
  · subst e; rw [hx] at ha; cases ha; exact hlt
  · have hml := (List.getElem?_eq_some_iff.1 hx).1
    have := List.pairwise_iff_getElem.1 hs i m (by omega) hml (by omega)
    rw [(List.getElem?_eq_some_iff.1 hx).2, (List.getElem?_eq_some_iff.1 ha).2] at this
    omega

theorem Between.down {xs : List Int} {v : Int} {lo hi m : Nat} (h : Between xs v lo hi) (hs : Sorted key xs) {x : Int} (hl : lo ≤ m) (hm : m < hi) (hx : xs[m]? = some x) (hge : key v ≤ key x) : Between xs v lo m := by
  refine ⟨hl, by have := h.len; omega, h.before, fun i a hi' ha => ?_⟩
  by_cases e : i = m
  · subst e; rw [hx] at ha; cases ha; exact hge
  · have hil := (List.getElem?_eq_some_iff.1 ha).1
    have := List.pairwise_iff_getElem.1 hs m i (by omega) hil (by omega)
    rw [(List.getElem?_eq_some_iff.1 hx).2, (List.getElem?_eq_some_iff.1 ha).2] at this
    omega

/-- is one there that is the same? -/
def isAt (xs : List Int) (v : Int) (n : Nat) : Bool := match xs[n]? with | some a => decide (key a = key v) | none => false

set_option maxHeartbeats 1000000 in
theorem find_any (p : Option Addr) (c : Nat) (xs : List Int) (v : Int) (w : World) (hx : View w p c xs) (hn : xs.length ≤ 1048576) (hs : Sorted key xs) :
    Calls Try.prog 20 #[.slice p xs.length c, .int .i64 v, .func (.func 11) #[] #[]] w fun e w' => (∃ n : Nat, e = .returned (.tuple #[.int .i64 n, .bool (isAt xs v n)]) ∧ At xs v n) ∧ Upd [] w w' := by
  have HX := Lib.hid hx
  have HS := Lib.hid hs
  clear hx hs
  go_enter Try.func20, Try.ntmps20
  go_wp2_with fail
  go_loopw [8, 9] (fun u8 u9 wr => ∃ lo hi : Nat, u8 = .int .i64 lo ∧ u9 = .int .i64 hi ∧ Between xs v lo hi ∧ Upd [] w wr) (fun u8 u9 _ => (intOf u9).toNat - (intOf u8).toNat)
  case atStart => exact ⟨0, xs.length, rfl, rfl, ⟨Nat.zero_le _, Nat.le_refl _, fun i a h => absurd h (Nat.not_lt_zero _), fun i a h ha => by have := (List.getElem?_eq_some_iff.1 ha).1; omega⟩, Upd.refl _ _⟩
  case round =>
    obtain ⟨lo, hi, rfl, rfl, hb, U0⟩ := hrel
    have hle := hb.le
    have hlen := hb.len
    have HB := Lib.hid hb
    clear hb
    by_cases hlt : lo < hi
    · have e1 : ((hi : Int) - (lo : Int)).tdiv 2 = (((hi - lo) / 2 : Nat) : Int) := by
        rw [← Int.natCast_sub hle]; rfl
      generalize hm : (hi - lo) / 2 = m at e1
      have hmb : lo + m < hi := by omega
      obtain ⟨x, hxm⟩ : ∃ x, xs[lo + m]? = some x := ⟨xs[lo + m], List.getElem?_eq_getElem (by omega)⟩
      obtain ⟨bx, ox, rfl, _, hcx⟩ := (HX.out.upd U0).cells (lo + m) x hxm
      have cx := hcx (lo + m) x hxm
      have z1 : (0 : Int) ≤ (lo : Int) + (m : Int) := by omega
      have z2 : (lo : Int) + (m : Int) < (xs.length : Int) := by omega
      have HXM := Lib.hid hxm
      have HM := Lib.hid hm
      clear hcx hxm hm
      by_cases hk : key x < key v
      · have ht : decide (ord x v < 0) = true := decide_eq_true (ord_lt.2 hk)
        have HK := Lib.hid hk
        clear hk
        go_wp2_with (go_at_call 11; refine (ord_any _ _ _).mono ?_; rintro e w' ⟨rfl, rfl⟩)
        go_roundw
        case rel => exact ⟨lo + m + 1, hi, by go_num, rfl, HB.out.up HS.out hmb HXM.out HK.out, U0⟩
        case measure => simp [intOf]; omega
      · have ht : decide (ord x v < 0) = false := decide_eq_false (fun e => hk (ord_lt.1 e))
        have hk' : key v ≤ key x := by omega
        have HK := Lib.hid hk'
        clear hk hk'
        go_wp2_with (go_at_call 11; refine (ord_any _ _ _).mono ?_; rintro e w' ⟨rfl, rfl⟩)
        go_roundw
        case rel => exact ⟨lo, lo + m, rfl, by go_num, HB.out.down HS.out (by omega) hmb HXM.out HK.out, U0⟩
        case measure => simp [intOf]; omega
    · have he : hi = lo := by omega
      subst he
      by_cases hll : hi < xs.length
      · obtain ⟨x, hxm⟩ : ∃ x, xs[hi]? = some x := ⟨xs[hi], List.getElem?_eq_getElem hll⟩
        obtain ⟨bx, ox, rfl, _, hcx⟩ := (HX.out.upd U0).cells hi x hxm
        have cx := hcx hi x hxm
        have HXM := Lib.hid hxm
        clear hcx hxm
        go_wp2_with (go_at_call 11; refine (ord_any _ _ _).mono ?_; rintro e w' ⟨rfl, rfl⟩)
        have e2 : (ord x v == 0) = isAt xs v hi := by
          unfold isAt; rw [HXM.out]
          exact Bool.eq_iff_iff.2 (by simp only [beq_iff_eq, decide_eq_true_eq]; exact ord_eq)
        rw [e2]
        exact bodyPost_ret (v := .tuple #[.int .i64 hi, .bool (isAt xs v hi)]) (by simp [results, Try.results20, go_sem]) rfl ⟨⟨hi, rfl, ⟨hlen, HB.out.before, HB.out.after⟩⟩, U0⟩
      · go_wp2_with fail
        have e2 : false = isAt xs v hi := by
          unfold isAt; rw [List.getElem?_eq_none (by omega)]
        exact bodyPost_ret (v := .tuple #[.int .i64 hi, .bool (isAt xs v hi)]) (by rw [← e2]; simp [results, Try.results20, go_sem]) rfl ⟨⟨hi, rfl, ⟨hlen, HB.out.before, HB.out.after⟩⟩, U0⟩

end Go.Proofs.Ytkfolfkgjpcmiaa
