/- Clone, equal, Sorted. -/
import Derived.Test.YtkfolfkgjpcmiaaV
namespace Go.Proofs.Ytkfolfkgjpcmiaa
open Go.RowKit

def lenV : Value → Nat | .slice _ n _ => n | _ => 0

theorem clone_any (p : Option Addr) (cap : Nat) (xs : List Int) (w : World) (h : View w p cap xs) (hn : xs.length ≤ 1048576) :
    Calls Try.prog 22 #[.slice p xs.length cap] w fun e w' => (∃ v, e = .returned v ∧ Own w' w.heap.size v xs) ∧ Upd [] w w' := by
  have he := Lib.run_eql_slice_nil (P := Try.prog) w 22 3 p xs.length cap 0 0 Try.underlying22
  cases p with
  | none =>
    have hc := h.nil rfl
    have hl : xs.length = 0 := by have := h.le; omega
    have hx : xs = [] := List.eq_nil_of_length_eq_zero hl
    subst hx hc
    have he2 : (binOp .eql 22 (.slice none 0 0) (.slice none 0 0)).run Try.prog w = .ok (.bool true) w := he
    clear hl he
    show Calls Try.prog 22 #[.slice none 0 0] w _
    go_enter Try.func22, Try.ntmps22
    go_wp2_with fail
    go_ret
    exact ⟨⟨_, rfl, Own.nil _ _⟩, Upd.refl _ _⟩
  | some ad =>
    have ho : Own (w.alloc (.cells #[] 3)) w.heap.size (.slice (some ⟨w.heap.size, 0, none⟩) 0 0) [] := World.ownsRow_made w #[] 0 (Nat.le_refl _) (by unfold maxLen; omega) rfl
    have hv := h.upd ((Upd.refl [] w).alloc (.cells #[] 3))
    go_enter Try.func22, Try.ntmps22
    go_wp2_with (at_builtin; refine wpList_append_view rfl _ _ rfl w.heap.size _ [] xs (some ad) cap rfl rfl ho hv (by simp) (by simpa using hn) ?_)
    intro v' w1 hown hgr
    have hu := own_grown ho hgr ((Upd.refl [] w).alloc _) (Nat.le_refl _)
    clear hgr ho hv
    go_wp2
    go_ret
    exact ⟨⟨_, rfl, hown⟩, hu⟩

/-- are two lists one? -/
def eqL (a b : List Int) : Bool := decide (a = b)

set_option maxHeartbeats 400000 in
theorem equal_any (p q : Option Addr) (c d : Nat) (xs ys : List Int) (w : World) (hx : View w p c xs) (hy : View w q d ys) (hn : xs.length ≤ 1048576) :
    Calls Try.prog 13 #[.slice p xs.length c, .slice q ys.length d] w fun e w' => e = .returned (.bool (eqL xs ys)) ∧ Upd [] w w' := by
  by_cases hl : xs.length = ys.length
  · have hlb : ((xs.length : Int) != (ys.length : Int)) = false := by simp [hl]
    have hxc := hx.cells
    have hyc := hy.cells
    have HL := Lib.hid hl
    have HX := Lib.hid hxc
    have HY := Lib.hid hyc
    clear hl hxc hyc
    go_enter Try.func13, Try.ntmps13
    go_wp2_with fail
    go_loopw [13] (fun i wr => ∃ k : Nat, k ≤ xs.length ∧ i = .int .i64 k ∧ xs.take k = ys.take k ∧ ∃ m, wr = w.drewN m) (fun i _ => xs.length - (intOf i).toNat)
    case atStart => exact ⟨0, Nat.zero_le _, rfl, rfl, 0, rfl⟩
    case round =>
      obtain ⟨k, hk, rfl, htk, m, rfl⟩ := hrel
      by_cases hkl : k < xs.length
      · have hkm : k < ys.length := by have := HL.out; omega
        obtain ⟨a, ha⟩ : ∃ a, xs[k]? = some a := ⟨xs[k], List.getElem?_eq_getElem hkl⟩
        obtain ⟨b, hb⟩ : ∃ a, ys[k]? = some a := ⟨ys[k], List.getElem?_eq_getElem hkm⟩
        obtain ⟨bx, ox, rfl, _, hcx⟩ := HX.out k a ha
        obtain ⟨by', oy, rfl, _, hcy⟩ := HY.out k b hb
        have ca := hcx k a ha
        have cb := hcy k b hb
        have HA := Lib.hid ha
        have HB := Lib.hid hb
        have HT := Lib.hid htk
        clear hcx hcy ha hb htk
        by_cases hab : a = b
        · have ht : (a != b) = false := by simp [hab]
          have HE := Lib.hid hab
          clear hab
          go_wp2_with fail
          go_quiet (fail)
          go_wp2_with fail
          go_roundw
          case rel =>
            refine ⟨k + 1, by omega, by go_num, ?_, _, rfl⟩
            rw [List.take_add_one, List.take_add_one, HA.out, HB.out, HT.out, HE.out]
          case measure => simp [intOf]; omega
        · have ht : (a != b) = true := by simp [hab]
          have HE := Lib.hid hab
          clear hab
          go_wp2_with fail
          go_quiet (fail)
          go_wp2_with fail
          go_ret
          refine ⟨ret_bool ?_, ⟨rfl, rfl, rfl, Nat.le_refl _, fun _ _ _ => rfl⟩⟩
          unfold eqL
          exact (decide_eq_false (fun e => HE.out (by have h1 := HA.out; rw [e, HB.out] at h1; exact (Option.some.inj h1).symm))).symm
      · have HT := Lib.hid htk
        clear htk
        go_wp2
        go_ret
        refine ⟨ret_bool ?_, ⟨rfl, rfl, rfl, Nat.le_refl _, fun _ _ _ => rfl⟩⟩
        unfold eqL
        have h1 := HT.out
        rw [List.take_of_length_le (by omega), List.take_of_length_le (by have := HL.out; omega)] at h1
        exact (decide_eq_true h1).symm
  · have hlb : ((xs.length : Int) != (ys.length : Int)) = true := by simp; omega
    go_enter Try.func13, Try.ntmps13
    go_wp2_with fail
    go_ret
    exact ⟨ret_bool (by unfold eqL; exact (decide_eq_false (fun e => hl (by rw [e]))).symm), Upd.refl _ _⟩

end Go.Proofs.Ytkfolfkgjpcmiaa
