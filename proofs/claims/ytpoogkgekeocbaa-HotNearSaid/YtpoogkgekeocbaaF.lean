/- Are all right? Find. refs. -/
import Derived.Test.YtpoogkgekeocbaaE
namespace Go.Proofs.Ytpoogkgekeocbaa
open Go.RowKit

set_option maxHeartbeats 1000000 in
theorem index_any (p : Option Addr) (c : Nat) (xs : List Pt) (w : World) (hx : View w p c xs) (hn : xs.length ≤ 1048576) :
    Calls Try.prog 38 #[.slice p xs.length c, .func (.func 20) #[] #[]] w fun e w' => (∃ i : Int, e = .returned (.int .i64 i) ∧ decide (0 ≤ i) = !(xs.all rightP)) ∧ Upd [] w w' := by
  have HX := Lib.hid hx
  clear hx
  go_enter Try.func38, Try.ntmps38
  go_wp2_with fail
  go_loopw [8] (fun u8 wr => ∃ j : Nat, j ≤ xs.length ∧ u8 = .int .i64 j ∧ (xs.take j).all rightP = true ∧ Upd [] w wr) (fun u8 _ => xs.length - (intOf u8).toNat)
  case atStart => exact ⟨0, Nat.zero_le _, rfl, by simp, Upd.refl _ _⟩
  case round =>
    obtain ⟨j, hj, rfl, hall, U0⟩ := hrel
    have HAL := Lib.hid hall
    clear hall
    by_cases hjl : j < xs.length
    · obtain ⟨a, ha⟩ : ∃ a, xs[j]? = some a := ⟨xs[j], List.getElem?_eq_getElem hjl⟩
      obtain ⟨bx, ox, rfl, _, hcx⟩ := (HX.out.upd U0).cells j a ha
      obtain ⟨ca, ca'⟩ := hcx j a ha
      have htk : xs.take (j + 1) = xs.take j ++ [a] := by rw [List.take_add_one, ha]; rfl
      have hmem : a ∈ xs := List.mem_of_getElem? ha
      have HTK := Lib.hid htk
      have HME := Lib.hid hmem
      clear hcx ha htk hmem
      go_wp2_with fail
      refine (notright_any a _).mono ?_
      rintro e w9 ⟨rfl, U9⟩
      have U1 := U0.trans U9
      clear ca ca' U0 U9
      cases hr : rightP a with
      | true =>
        have HR := Lib.hid hr
        clear hr
        go_wp2_with fail
        go_roundw
        case rel => exact ⟨j + 1, hjl, by go_num, by rw [HTK.out, List.all_append, HAL.out]; simp [HR.out], U1⟩
        case measure => simp [intOf]; omega
      | false =>
        have hf : xs.all rightP = false := by
          rw [List.all_eq_false]
          exact ⟨a, HME.out, by simp [hr]⟩
        have HF := Lib.hid hf
        clear hr hf
        go_wp2_with fail
        go_ret
        exact ⟨⟨j, rfl, by rw [HF.out]; simp⟩, U1⟩
    · have hje : j = xs.length := by omega
      subst hje
      have hal := HAL.out
      rw [List.take_length] at hal
      have HA2 := Lib.hid hal
      clear hal
      go_wp2_with fail
      go_ret
      exact ⟨⟨-1, rfl, by rw [HA2.out]; rfl⟩, U0⟩

theorem contains_any (p : Option Addr) (c : Nat) (xs : List Pt) (w : World) (hx : View w p c xs) (hn : xs.length ≤ 1048576) :
    Calls Try.prog 19 #[.slice p xs.length c, .func (.func 20) #[] #[]] w fun e w' => e = .returned (.bool (!(xs.all rightP))) ∧ Upd [] w w' := by
  go_enter Try.func19, Try.ntmps19
  go_wp2_with fail
  refine (index_any p c xs w hx hn).mono ?_
  rintro e w9 ⟨⟨i, rfl, hi⟩, U9⟩
  have HI := Lib.hid hi
  clear hi hx
  go_wp2_with fail
  go_ret
  exact ⟨ret_bool HI.out, U9⟩

/-- n is the place of v -/
structure At (xs : List Pt) (v : Pt) (n : Nat) : Prop where
  le : n ≤ xs.length
  before : ∀ i a, i < n → xs[i]? = some a → ltP false a v
  after : ∀ i a, n ≤ i → xs[i]? = some a → ¬ ltP false a v

structure Between (xs : List Pt) (v : Pt) (lo hi : Nat) : Prop where
  le : lo ≤ hi
  len : hi ≤ xs.length
  before : ∀ i a, i < lo → xs[i]? = some a → ltP false a v
  after : ∀ i a, hi ≤ i → xs[i]? = some a → ¬ ltP false a v

theorem not_lt_trans {t : Bool} {a b c : Pt} (h : ¬ ltP t b a) (g : ltP t b c → False) : ltP t a c → ltP t a c := id

theorem Sorted.pair {t : Bool} {xs : List Pt} (h : Sorted t xs) {i j : Nat} {a b : Pt} (hij : i < j) (ha : xs[i]? = some a) (hb : xs[j]? = some b) : ¬ ltP t b a := by
  have hi := (List.getElem?_eq_some_iff.1 ha).1
  have hj := (List.getElem?_eq_some_iff.1 hb).1
  have := List.pairwise_iff_getElem.1 h i j hi hj hij
  rwa [(List.getElem?_eq_some_iff.1 ha).2, (List.getElem?_eq_some_iff.1 hb).2] at this

theorem Between.up {xs : List Pt} {v : Pt} {lo hi m : Nat} (h : Between xs v lo hi) (hs : Sorted false xs) {x : Pt} (hm : m < hi) (hx : xs[m]? = some x) (hlt : ltP false x v) : Between xs v (m + 1) hi := by
  refine ⟨hm, h.len, fun i a hi' ha => ?_, h.after⟩
  by_cases e : i = m
  · subst e; rw [hx] at ha; cases ha; exact hlt
  · have := hs.pair (show i < m by omega) ha hx
    rcases ltP_tri false a x with g | g | g
    · exact ltP_trans g hlt
    · rw [g]; exact hlt
    · exact absurd g this

theorem Between.down {xs : List Pt} {v : Pt} {lo hi m : Nat} (h : Between xs v lo hi) (hs : Sorted false xs) {x : Pt} (hl : lo ≤ m) (hm : m < hi) (hx : xs[m]? = some x) (hge : ¬ ltP false x v) : Between xs v lo m := by
  refine ⟨hl, by have := h.len; omega, h.before, fun i a hi' ha hlt => ?_⟩
  by_cases e : i = m
  · subst e; rw [hx] at ha; cases ha; exact hge hlt
  · have := hs.pair (show m < i by omega) hx ha
    rcases ltP_tri false a x with g | g | g
    · exact this g
    · rw [g] at hlt; exact hge hlt
    · exact hge (ltP_trans g hlt)

def isAt (xs : List Pt) (v : Pt) (n : Nat) : Bool := match xs[n]? with | some a => decide (a = v) | none => false

end Go.Proofs.Ytpoogkgekeocbaa
