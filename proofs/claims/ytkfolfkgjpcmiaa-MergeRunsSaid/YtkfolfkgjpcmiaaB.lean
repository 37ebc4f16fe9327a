/- Sorted; Merge. -/
import Derived.Test.YtkfolfkgjpcmiaaA
namespace Go.Proofs.Ytkfolfkgjpcmiaa
open Go.RowKit

theorem Upd.drewN {S : List Nat} {a w : World} (h : Upd S a w) (n : Nat) : Upd S a (w.drewN n) := ⟨h.os, h.tape, h.output, h.size, h.block⟩

/-- the first k stand in order, each to the next -/
def upTo (xs : List Int) (k : Nat) : Prop := ∀ i, i + 1 < k → key (xs[i]?.getD 0) ≤ key (xs[i + 1]?.getD 0)

theorem upTo_sorted {xs : List Int} (h : upTo xs xs.length) : Sorted key xs := by
  have key2 : ∀ (d i : Nat), i + d < xs.length → key (xs[i]?.getD 0) ≤ key (xs[i + d]?.getD 0) := by
    intro d
    induction d with
    | zero => intro i _; exact Int.le_refl _
    | succ d ih =>
      intro i hi
      exact Int.le_trans (ih i (by omega)) (h (i + d) (by omega))
  refine List.pairwise_iff_getElem.2 fun i j hi hj hij => ?_
  have := key2 (j - i) i (by omega)
  rw [show i + (j - i) = j from by omega, List.getElem?_eq_getElem hi, List.getElem?_eq_getElem hj] at this
  exact this

theorem sorted_upTo {xs : List Int} (h : Sorted key xs) : upTo xs xs.length := by
  intro i hi
  have := List.pairwise_iff_getElem.1 h i (i + 1) (by omega) hi (by omega)
  rw [List.getElem?_eq_getElem (by omega), List.getElem?_eq_getElem hi]
  exact this

instance (xs : List Int) : Decidable (Sorted key xs) := inferInstanceAs (Decidable (xs.Pairwise _))
def sortedB (xs : List Int) : Bool := decide (Sorted key xs)

set_option maxHeartbeats 400000 in
theorem sorted_any (p : Option Addr) (c : Nat) (xs : List Int) (w : World) (hx : View w p c xs) (hn : xs.length ≤ 1048576) :
    Calls Try.prog 14 #[.slice p xs.length c, .func (.func 11) #[] #[]] w fun e w' => e = .returned (.bool (sortedB xs)) ∧ Upd [] w w' := by
  have HX := Lib.hid hx
  clear hx
  go_enter Try.func14, Try.ntmps14
  go_wp2_with fail
  go_loopw [5] (fun i wr => ∃ k : Nat, 1 ≤ k ∧ (k ≤ xs.length ∨ k = 1) ∧ i = .int .i64 k ∧ upTo xs k ∧ Upd [] w wr) (fun i _ => xs.length - (intOf i).toNat)
  case atStart => exact ⟨1, Nat.le_refl _, .inr rfl, rfl, fun i hi => by omega, Upd.refl _ _⟩
  case round =>
    obtain ⟨k, hk1, hk, rfl, hup, U0⟩ := hrel
    have HU := Lib.hid hup
    clear hup
    by_cases hkl : k < xs.length
    · obtain ⟨j, rfl⟩ : ∃ j, k = j + 1 := ⟨k - 1, by omega⟩
      obtain ⟨a, ha⟩ : ∃ a, xs[j + 1]? = some a := ⟨xs[j + 1], List.getElem?_eq_getElem hkl⟩
      obtain ⟨b, hb⟩ : ∃ a, xs[j]? = some a := ⟨xs[j]'(by omega), List.getElem?_eq_getElem _⟩
      obtain ⟨bx, ox, rfl, _, hcx⟩ := (HX.out.upd U0).cells (j + 1) a ha
      have ca := hcx (j + 1) a ha
      have cb := hcx j b hb
      have hz : (0 : Int) ≤ (j : Int) + 1 := by omega
      have HA := Lib.hid ha
      have HB := Lib.hid hb
      clear hcx ha hb hk
      by_cases hlt : key a < key b
      · have ht : decide (ord a b < 0) = true := decide_eq_true (ord_lt.2 hlt)
        go_wp2_with fail
        go_quiet ((go_at_call 11; first | exact Calls.quiet_of_same (ord_any _ _ _)))
        go_wp2_with fail
        go_ret
        refine ⟨ret_bool ?_, U0.drewN _⟩
        unfold sortedB
        refine (decide_eq_false fun hs => ?_).symm
        have h1 := sorted_upTo hs j (by omega)
        rw [HA.out, HB.out] at h1
        simp only [Option.getD_some] at h1
        omega
      · have ht : decide (ord a b < 0) = false := decide_eq_false (fun e => hlt (ord_lt.1 e))
        go_wp2_with fail
        go_quiet ((go_at_call 11; first | exact Calls.quiet_of_same (ord_any _ _ _)))
        go_wp2_with fail
        go_roundw
        case rel =>
          refine ⟨j + 2, by omega, by omega, by go_num, ?_, U0.drewN _⟩
          intro i hi
          by_cases hij : i = j
          · subst hij
            rw [HA.out, HB.out]
            simp only [Option.getD_some]
            omega
          · exact HU.out i (by omega)
        case measure => simp [intOf]; omega
    · go_wp2_with fail
      go_ret
      refine ⟨ret_bool ?_, U0⟩
      unfold sortedB
      refine (decide_eq_true (upTo_sorted fun i hi => ?_)).symm
      exact HU.out i (by omega)

end Go.Proofs.Ytkfolfkgjpcmiaa
