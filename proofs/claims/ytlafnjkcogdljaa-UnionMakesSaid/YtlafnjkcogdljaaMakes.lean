/- UnionMakes: the walk. -/
import Derived.Test.YtlafnjkcogdljaaE
namespace Go.Proofs.Ytlafnjkcogdljaa
open Go.RowKit

theorem makes_walk (n : Int) (w : World) : Calls Try.prog 4 #[.int .i64 n] w fun e w' => e = .returned (.bool true) ∧ Upd [] w w' := by
  by_cases h0 : n < 0
  · go_enter Try.func4, Try.ntmps4
    go_wp2_with fail
    refine (new_bad n (.inl h0) w).mono ?_
    rintro e w1 ⟨rfl, h1, u1⟩
    have cl := h1.cell 0
    have cc := h1.cell 1
    have cl' : w1.cell? ⟨w.heap.size, 0, none⟩ = some (.slice none ((0 : Nat)) ((0 : Nat))) := cl
    have cc' : w1.cell? ⟨w.heap.size, 1, none⟩ = some (.int .i64 0) := cc
    clear cl cc
    go_wp2_with fail
    refine (least_no _ 0 _ 0 w1 cl' rfl).mono ?_
    rintro e w' ⟨rfl, rfl⟩
    go_wp2_with fail
    refine (len_any _ 0 _ w1 cl').mono ?_
    rintro e w' ⟨rfl, rfl⟩
    go_wp2_with fail
    refine (count_any _ 0 w1 cc').mono ?_
    rintro e w' ⟨rfl, rfl⟩
    go_wp2_with fail
    refine (awake_any w1).mono ?_
    rintro e w2 ⟨rfl, u2⟩
    go_wp2_with fail
    go_ret
    exact ⟨rfl, u1.trans u2⟩
  · by_cases h2 : 1048576 < n
    · go_enter Try.func4, Try.ntmps4
      go_wp2_with fail
      refine (new_bad n (.inr h2) w).mono ?_
      rintro e w1 ⟨rfl, h1, u1⟩
      have cl := h1.cell 0
      have cc := h1.cell 1
      have cl' : w1.cell? ⟨w.heap.size, 0, none⟩ = some (.slice none ((0 : Nat)) ((0 : Nat))) := cl
      have cc' : w1.cell? ⟨w.heap.size, 1, none⟩ = some (.int .i64 0) := cc
      clear cl cc
      go_wp2_with fail
      refine (least_no _ 0 _ 0 w1 cl' rfl).mono ?_
      rintro e w' ⟨rfl, rfl⟩
      go_wp2_with fail
      refine (len_any _ 0 _ w1 cl').mono ?_
      rintro e w' ⟨rfl, rfl⟩
      go_wp2_with fail
      refine (count_any _ 0 w1 cc').mono ?_
      rintro e w' ⟨rfl, rfl⟩
      go_wp2_with fail
      refine (awake_any w1).mono ?_
      rintro e w2 ⟨rfl, u2⟩
      go_wp2_with fail
      go_ret
      exact ⟨rfl, u1.trans u2⟩
    · obtain ⟨k, rfl⟩ : ∃ k : Nat, n = k := ⟨n.toNat, by omega⟩
      have hk : k ≤ 1048576 := by omega
      have hno : inB k (k : Int) = false := by unfold inB; simp
      go_enter Try.func4, Try.ntmps4
      go_wp2_with fail
      refine (new_any k hk w).mono ?_
      rintro e w1 ⟨rfl, h1, u1⟩
      have cl := h1.cl
      have cc := h1.cc
      rw [cntX_range] at cc
      go_wp2_with fail
      refine (least_no _ k _ k w1 cl hno).mono ?_
      rintro e w' ⟨rfl, rfl⟩
      go_wp2_with fail
      refine (len_any _ k _ w1 cl).mono ?_
      rintro e w' ⟨rfl, rfl⟩
      go_wp2_with fail
      refine (count_any _ k w1 cc).mono ?_
      rintro e w' ⟨rfl, rfl⟩
      go_wp2_with fail
      refine (awake_any w1).mono ?_
      rintro e w2 ⟨rfl, u2⟩
      go_wp2_with fail
      go_ret
      exact ⟨rfl, u1.trans u2⟩

end Go.Proofs.Ytlafnjkcogdljaa
