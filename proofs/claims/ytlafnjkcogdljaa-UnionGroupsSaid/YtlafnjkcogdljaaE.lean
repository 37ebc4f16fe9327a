/- The calls at whole numbers; the fixed answer. -/
import Derived.Test.YtlafnjkcogdljaaD
namespace Go.Proofs.Ytlafnjkcogdljaa
open Go.RowKit

theorem inB_out {n : Nat} {a : Int} (h : inB n a = true) : ∃ k : Nat, a = (k : Int) ∧ k < n := by
  unfold inB at h
  simp at h
  exact ⟨a.toNat, by omega, by omega⟩

theorem join_in (s b n : Nat) (x : List Nat) (a c : Int) (w : World) (h : SetsAt w s b n x) (ha : inB n a = true) (hc : inB n c = true) :
    Calls Try.prog 10 #[.pointer (some ⟨s, 0, none⟩), .int .i64 a, .int .i64 c] w fun e w' => e = .returned (.tuple #[.bool (!eqB x a.toNat c.toNat), .int .i64 0]) ∧ SetsAt w' s b n (joinX x a.toNat c.toNat) ∧ Upd [s, b] w w' := by
  obtain ⟨k, rfl, hk⟩ := inB_out ha
  obtain ⟨l, rfl, hl⟩ := inB_out hc
  rw [Int.toNat_natCast, Int.toNat_natCast]
  by_cases e : x[k]?.getD 0 = x[l]?.getD 0
  · refine (join_same s b n x k l w h hk hl e).mono ?_
    rintro e' w' ⟨rfl, h1, h2⟩
    rw [joinX_same _ _ _ e]
    exact ⟨by unfold eqB; rw [decide_eq_true e]; rfl, h1, h2.mono (by simp)⟩
  · refine (join_diff s b n x k l w h hk hl e).mono ?_
    rintro e' w' ⟨rfl, h1, h2⟩
    exact ⟨by unfold eqB; rw [decide_eq_false e]; rfl, h1, h2⟩

theorem least_in (s b n : Nat) (x : List Nat) (a : Int) (w : World) (h : SetsAt w s b n x) (ha : inB n a = true) :
    Calls Try.prog 16 #[.pointer (some ⟨s, 0, none⟩), .int .i64 a] w fun e w' => e = .returned (.tuple #[.int .i64 (x[a.toNat]?.getD 0 : Nat), .int .i64 0]) ∧ SetsAt w' s b n x ∧ Upd [s, b] w w' := by
  obtain ⟨k, rfl, hk⟩ := inB_out ha
  rw [Int.toNat_natCast]
  exact (least_yes s b n x k w h hk).mono fun e w' ⟨h1, h2, h3⟩ => ⟨h1, h2, h3.mono (by simp)⟩

theorem size_in (s b n : Nat) (x : List Nat) (a : Int) (w : World) (h : SetsAt w s b n x) (ha : inB n a = true) :
    Calls Try.prog 21 #[.pointer (some ⟨s, 0, none⟩), .int .i64 a] w fun e w' => e = .returned (.int .i64 (x.count (x[a.toNat]?.getD 0) : Nat)) ∧ SetsAt w' s b n x ∧ Upd [s, b] w w' := by
  obtain ⟨k, rfl, hk⟩ := inB_out ha
  rw [Int.toNat_natCast]
  exact (size_yes s b n x k w h hk).mono fun e w' ⟨h1, h2, h3⟩ => ⟨h1, h2, h3.mono (by simp)⟩

theorem same_in (s b n : Nat) (x : List Nat) (a c : Int) (w : World) (h : SetsAt w s b n x) (ha : inB n a = true) (hc : inB n c = true) :
    Calls Try.prog 12 #[.pointer (some ⟨s, 0, none⟩), .int .i64 a, .int .i64 c] w fun e w' => e = .returned (.bool (eqB x a.toNat c.toNat)) ∧ SetsAt w' s b n x ∧ Upd [s, b] w w' := by
  obtain ⟨k, rfl, hk⟩ := inB_out ha
  obtain ⟨l, rfl, hl⟩ := inB_out hc
  rw [Int.toNat_natCast, Int.toNat_natCast]
  exact (same_yes s b n x k l w h hk hl).mono fun e w' ⟨h1, h2, h3⟩ => ⟨h1, h2, h3.mono (by simp)⟩

theorem SetsAt.cl {w s b n x} (h : SetsAt w s b n x) : w.cell? ⟨s, 0, none⟩ = some (.slice (some ⟨b, 0, none⟩) n n) := by
  obtain ⟨_, _, _, _, _, h, _⟩ := h; exact h.cl
theorem SetsAt.cc {w s b n x} (h : SetsAt w s b n x) : w.cell? ⟨s, 1, none⟩ = some (.int .i64 (cntX x)) := by
  obtain ⟨_, _, _, _, _, h, _⟩ := h; exact h.cc
theorem SetsAt.len {w s b n x} (h : SetsAt w s b n x) : x.length = n := by
  obtain ⟨_, _, _, _, _, _, g⟩ := h; exact g.len
theorem SetsAt.upd {w w' S s b n x} (h : SetsAt w s b n x) (u : Upd S w w') (h1 : s ∉ S) (h2 : b ∉ S) : SetsAt w' s b n x := by
  obtain ⟨_, _, _, _, _, h, g⟩ := h; exact ⟨_, _, _, _, _, h.upd u h1 h2, g⟩
theorem SetsAt.lt {w s b n x} (h : SetsAt w s b n x) : s < w.heap.size ∧ b < w.heap.size := by
  obtain ⟨_, _, _, _, _, h, g⟩ := h; exact ⟨h.hs.lt, h.hb.lt⟩
theorem SetsAt.drew {w s b n x} (h : SetsAt w s b n x) : SetsAt w.drew s b n x := by
  obtain ⟨_, _, _, _, _, h, g⟩ := h; exact ⟨_, _, _, _, _, h.drew, g⟩

theorem new_4 (w : World) :
    Calls Try.prog 8 #[.int .i64 4] w fun e w' => e = .returned (.pointer (some ⟨w.heap.size, 0, none⟩)) ∧ SetsAt w' w.heap.size (w.heap.size + 1) 4 [0, 1, 2, 3] ∧ Upd [] w w' :=
  new_any 4 (by omega) w

set_option maxHeartbeats 400000 in
theorem awake_any (w : World) : Calls Try.prog 7 #[] w fun e w' => e = .returned (.bool true) ∧ Upd [] w w' := by
  go_enter Try.func7, Try.ntmps7
  go_wp2_with fail
  refine (new_4 w).mono ?_
  rintro e w1 ⟨rfl, h1, u1⟩
  obtain ⟨s, hs⟩ : ∃ s, s = w.heap.size := ⟨_, rfl⟩
  obtain ⟨b, hb⟩ : ∃ s, s = w.heap.size + 1 := ⟨_, rfl⟩
  rw [← hb, ← hs] at h1
  rw [← hs]
  have HS := Lib.hid hs
  have HB := Lib.hid hb
  clear hs hb
  go_wp2_with fail
  refine (join_in s b 4 [0, 1, 2, 3] 1 3 w1 h1 rfl rfl).mono ?_
  rintro e w2 ⟨rfl, h2, u2⟩
  have e2 : joinX [0, 1, 2, 3] (1 : Int).toNat (3 : Int).toNat = [0, 1, 2, 1] := by decide
  have e3 : (!eqB [0, 1, 2, 3] (1 : Int).toNat (3 : Int).toNat) = true := by decide
  rw [e2] at h2
  rw [e3]
  clear e2 e3
  go_wp2_with fail
  refine (join_in s b 4 [0, 1, 2, 1] 3 1 w2 h2 rfl rfl).mono ?_
  rintro e w3 ⟨rfl, h3, u3⟩
  have e2 : joinX [0, 1, 2, 1] (3 : Int).toNat (1 : Int).toNat = [0, 1, 2, 1] := by decide
  have e3 : (!eqB [0, 1, 2, 1] (3 : Int).toNat (1 : Int).toNat) = false := by decide
  rw [e2] at h3
  rw [e3]
  clear e2 e3
  go_wp2_with fail
  refine (join_no s 4 _ 4 1 w3 h3.cl (.inl rfl)).mono ?_
  rintro e w' ⟨rfl, rfl⟩
  go_wp2_with fail
  refine (least_in s b 4 [0, 1, 2, 1] 3 w3 h3 rfl).mono ?_
  rintro e w4 ⟨rfl, h4, u4⟩
  have e2 : ((([0, 1, 2, 1] : List Nat)[(3 : Int).toNat]?.getD 0 : Nat) : Int) = 1 := by decide
  rw [e2]
  clear e2
  go_wp2_with fail
  have e2 : ((cntX [0, 1, 2, 1] : Nat) : Int) = 3 := by decide
  have c4 := h4.cc
  rw [e2] at c4
  clear e2
  refine (count_any s 3 w4 c4).mono ?_
  rintro e w' ⟨rfl, rfl⟩
  go_wp2_with fail
  refine (same_in s b 4 [0, 1, 2, 1] 1 3 w4 h4 rfl rfl).mono ?_
  rintro e w5 ⟨rfl, h5, u5⟩
  have e3 : (eqB [0, 1, 2, 1] (1 : Int).toNat (3 : Int).toNat) = true := by decide
  rw [e3]
  clear e3
  go_wp2_with fail
  refine (same_in s b 4 [0, 1, 2, 1] 1 2 w5 h5 rfl rfl).mono ?_
  rintro e w6 ⟨rfl, h6, u6⟩
  have e3 : (eqB [0, 1, 2, 1] (1 : Int).toNat (2 : Int).toNat) = false := by decide
  rw [e3]
  clear e3
  go_wp2_with fail
  go_ret
  refine ⟨rfl, ?_⟩
  have u := (u2.trans u3).trans ((u4.trans u5).trans u6)
  have u' : Upd [s, b] w w6 := (u1.mono (by simp)).trans u
  refine u'.shrink ?_
  have := HS.out
  have := HB.out
  simp
  omega

end Go.Proofs.Ytlafnjkcogdljaa
