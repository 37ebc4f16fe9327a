/- New. -/
import Derived.Test.YtlafnjkcogdljaaB
namespace Go.Proofs.Ytlafnjkcogdljaa
open Go.RowKit

theorem Try.info54 : (Try.prog.info? 54).map (fun i => (i.zero, i.size, i.bytes)) = some (some (.agg #[.int .i64 0, .int .i64 0, .int .i64 0]), 3, 24) := by kernel_rfl

theorem make_tree (n : Nat) (hn : n ≤ 1048576) (w : World) : ∃ c : List Value, c.length = n * 3 ∧
    (Instr.makeSlice 50 (.int .i64 n) (.int .i64 n)).run Try.prog w = .ok (.slice (some ⟨w.heap.size, 0, none⟩) n n) (w.alloc (.cells c.toArray 54 (0, 0))) := by
  obtain ⟨i0, hi, hz0, hz1, hz2⟩ := info_parts Try.info54
  refine ⟨(madeCells (Value.agg #[.int .i64 0, .int .i64 0, .int .i64 0]).cells (n * 3)).toList, by simp [size_madeCells], ?_⟩
  have h := run_make (P := Try.prog) w 50 54 i0 _ Try.underlying50 hi hz0 .i64 .i64 n n (by omega) (by omega) (by rw [hz2]; omega) (by omega)
  rw [h, hz1]
  simp

/-- of the first k numbers each is a set by itself -/
structure Made (cs : List Value) (n k : Nat) : Prop where
  len : cs.length = n * 3
  u : ∀ i, i < k → cs[i * 3]? = some (.int .i64 (i : Nat)) ∧ cs[i * 3 + 1]? = some (.int .i64 1) ∧ cs[i * 3 + 2]? = some (.int .i64 (i : Nat))

theorem Made.step {cs n k} (h : Made cs n k) (hk : k < n) : Made (((cs.set (k * 3) (.int .i64 (k : Nat))).set (k * 3 + 1) (.int .i64 1)).set (k * 3 + 2) (.int .i64 (k : Nat))) n (k + 1) := by
  have hl := h.len
  refine ⟨by simp [hl], fun i hi => ?_⟩
  by_cases e : i = k
  · subst e
    refine ⟨?_, ?_, ?_⟩
    · rw [List.getElem?_set_ne (by omega), List.getElem?_set_ne (by omega), List.getElem?_set_self (by omega)]
    · rw [List.getElem?_set_ne (by omega), List.getElem?_set_self (by simp; omega)]
    · rw [List.getElem?_set_self (by simp; omega)]
  · have := h.u i (by omega)
    refine ⟨?_, ?_, ?_⟩
    all_goals rw [List.getElem?_set_ne (by omega), List.getElem?_set_ne (by omega), List.getElem?_set_ne (by omega)]
    · exact this.1
    · exact this.2.1
    · exact this.2.2

theorem Made.tree {cs n} (h : Made cs n n) : Tree cs n (fun i => i) (fun _ => 1) (fun i => i) :=
  ⟨h.len, fun i hi => (h.u i hi).1, fun i hi => (h.u i hi).2.1, fun i hi => (h.u i hi).2.2⟩

set_option maxHeartbeats 400000 in
theorem new_any (n : Nat) (hn : n ≤ 1048576) (w : World) :
    Calls Try.prog 8 #[.int .i64 n] w fun e w' => e = .returned (.pointer (some ⟨w.heap.size, 0, none⟩)) ∧ SetsAt w' w.heap.size (w.heap.size + 1) n (List.range n) ∧ Upd [] w w' := by
  obtain ⟨c, hc, hmk⟩ := make_tree n hn (w.alloc (.cells #[.slice none 0 0, .int .i64 0] 52))
  go_enter Try.func8, Try.ntmps8
  go_wp2_with fail
  have hs0 : IsRow ((w.alloc (.cells #[.slice (some ⟨w.heap.size + 1, 0, none⟩) n n, .int .i64 n] 52)).alloc (.cells c.toArray 54)) w.heap.size 52 [.slice (some ⟨w.heap.size + 1, 0, none⟩) n n, .int .i64 n] := (IsRow.new w [.slice (some ⟨w.heap.size + 1, 0, none⟩) n n, .int .i64 n] 52).alloc _
  have hb0 : IsRow ((w.alloc (.cells #[.slice (some ⟨w.heap.size + 1, 0, none⟩) n n, .int .i64 n] 52)).alloc (.cells c.toArray 54)) (w.heap.size + 1) 54 c := by
    have := IsRow.new (w.alloc (.cells #[.slice (some ⟨w.heap.size + 1, 0, none⟩) n n, .int .i64 n] 52)) c 54
    rwa [World.size_alloc] at this
  have hu0 : Upd [] w ((w.alloc (.cells #[.slice (some ⟨w.heap.size + 1, 0, none⟩) n n, .int .i64 n] 52)).alloc (.cells c.toArray 54)) := ((Upd.refl [] w).alloc _).alloc _
  clear hmk
  generalize (w.alloc (.cells #[.slice (some ⟨w.heap.size + 1, 0, none⟩) n n, .int .i64 n] 52)).alloc (.cells c.toArray 54) = w1 at hs0 hb0 hu0 ⊢
  obtain ⟨b, hbb⟩ : ∃ b, b = w.heap.size + 1 := ⟨_, rfl⟩
  rw [← hbb] at hs0 hb0 ⊢
  have HB := Lib.hid hbb
  clear hbb
  go_loopw [4, 27] (fun _ i wr => ∃ k : Nat, k ≤ n ∧ i = .int .i64 k ∧ ∃ cs, IsRow wr w.heap.size 52 [.slice (some ⟨b, 0, none⟩) n n, .int .i64 n] ∧ IsRow wr b 54 cs ∧ Made cs n k ∧ Upd [] w wr) (fun _ i _ => n - (intOf i).toNat)
  case atStart => exact ⟨0, Nat.zero_le _, rfl, c, hs0, hb0, ⟨hc, fun i hi => absurd hi (Nat.not_lt_zero i)⟩, hu0⟩
  case round =>
    obtain ⟨k, hk, rfl, cs, hs1, hb1, hm, hu⟩ := hrel
    by_cases hlt : k < n
    · have cl := hs1.cell 0
      have l := hm.len
      obtain ⟨v0, c0⟩ := hb1.has (o := k * 3) (by omega)
      obtain ⟨v1, c1⟩ := hb1.has (o := k * 3 + 1) (by omega)
      obtain ⟨v2, c2⟩ := hb1.has (o := k * 3 + 2) (by omega)
      have HL := Lib.hid l
      clear l
      have f0 := hb1.free (k * 3)
      have f1 := hb1.free (k * 3 + 1)
      have f2 := hb1.free (k * 3 + 2)
      go_wp2
      go_roundw
      case rel =>
        refine ⟨k + 1, by omega, by go_num, _, ?_, ((hb1.setCell_same _ _).setCell_same _ _).setCell_same _ _, hm.step hlt, ?_⟩
        · have hne : b ≠ w.heap.size := by have := HB.out; omega
          exact ((hs1.setCell_other _ hne _).setCell_other _ hne _).setCell_other _ hne _
        · have hle : w.heap.size ≤ b := by have := HB.out; omega
          exact ((hu.setCell_new hle _).setCell_new hle _).setCell_new hle _
      case measure => simp [intOf]; omega
    · have hkn : n = k := by omega
      subst hkn
      go_wp2
      go_ret
      refine ⟨rfl, ?_, hu⟩
      have hb := HB.out
      subst hb
      refine ⟨cs, _, _, _, _, ⟨by omega, ?_, hb1, hm.tree, (good_new n).forest, hn⟩, good_new n⟩
      rw [cntX_range]; exact hs1

/-- New of a number that is not allowed: of none. -/
theorem new_bad (n : Int) (hn : n < 0 ∨ 1048576 < n) (w : World) :
    Calls Try.prog 8 #[.int .i64 n] w fun e w' => e = .returned (.pointer (some ⟨w.heap.size, 0, none⟩)) ∧ IsRow w' w.heap.size 52 [.slice none 0 0, .int .i64 0] ∧ Upd [] w w' := by
  have key : ∀ wr : World, IsRow (w.alloc (.cells #[.slice none 0 0, .int .i64 0] 52)) w.heap.size 52 [.slice none 0 0, .int .i64 0] := fun _ => IsRow.new w _ _
  have hr := IsRow.new w [.slice none 0 0, .int .i64 0] 52
  rcases hn with hn | hn
  · go_enter Try.func8, Try.ntmps8
    go_wp2_with fail
    go_loop [4, 27] (fun _ i => i = .int .i64 0) (fun _ _ => 0)
    case atStart => exact rfl
    case round =>
      subst hrel
      go_wp2
      go_ret
      exact ⟨rfl, hr, (Upd.refl [] w).alloc _⟩
  · have h' : ¬ n < 0 := by omega
    go_enter Try.func8, Try.ntmps8
    go_wp2_with fail
    go_loop [4, 27] (fun _ i => i = .int .i64 0) (fun _ _ => 0)
    case atStart => exact rfl
    case round =>
      subst hrel
      go_wp2
      go_ret
      exact ⟨rfl, hr, (Upd.refl [] w).alloc _⟩

theorem len_any (s n : Nat) (p : Option Addr) (w : World) (hc : w.cell? ⟨s, 0, none⟩ = some (.slice p n n)) :
    Calls Try.prog 17 #[.pointer (some ⟨s, 0, none⟩)] w fun e w' => e = .returned (.int .i64 n) ∧ w = w' := by
  go_enter Try.func17, Try.ntmps17
  go_wp2
  go_ret
  exact ⟨rfl, rfl⟩

theorem count_any (s : Nat) (c : Int) (w : World) (hc : w.cell? ⟨s, 1, none⟩ = some (.int .i64 c)) :
    Calls Try.prog 14 #[.pointer (some ⟨s, 0, none⟩)] w fun e w' => e = .returned (.int .i64 c) ∧ w = w' := by
  go_enter Try.func14, Try.ntmps14
  go_wp2
  go_ret
  exact ⟨rfl, rfl⟩

theorem least_no (s n : Nat) (p : Option Addr) (a : Int) (w : World) (hc : w.cell? ⟨s, 0, none⟩ = some (.slice p n n)) (h : inB n a = false) :
    Calls Try.prog 16 #[.pointer (some ⟨s, 0, none⟩), .int .i64 a] w fun e w' => e = .returned (.tuple #[.int .i64 0, .int .i64 11]) ∧ w = w' := by
  go_enter Try.func16, Try.ntmps16
  go_wp2_with (go_at_call 23; refine (has_any _ n _ _ _ (by assumption)).mono ?_; rintro e w' ⟨rfl, rfl⟩)
  go_ret2
  exact ⟨rfl, rfl⟩

theorem size_no (s n : Nat) (p : Option Addr) (a : Int) (w : World) (hc : w.cell? ⟨s, 0, none⟩ = some (.slice p n n)) (h : inB n a = false) :
    Calls Try.prog 21 #[.pointer (some ⟨s, 0, none⟩), .int .i64 a] w fun e w' => e = .returned (.int .i64 0) ∧ w = w' := by
  go_enter Try.func21, Try.ntmps21
  go_wp2_with (go_at_call 23; refine (has_any _ n _ _ _ (by assumption)).mono ?_; rintro e w' ⟨rfl, rfl⟩)
  go_ret
  exact ⟨rfl, rfl⟩

theorem same_no (s n : Nat) (p : Option Addr) (a c : Int) (w : World) (hc : w.cell? ⟨s, 0, none⟩ = some (.slice p n n)) (h : inB n a = false ∨ (inB n a = true ∧ inB n c = false)) :
    Calls Try.prog 12 #[.pointer (some ⟨s, 0, none⟩), .int .i64 a, .int .i64 c] w fun e w' => e = .returned (.bool false) ∧ w = w' := by
  rcases h with h1 | ⟨h1, h2⟩
  all_goals
    go_enter Try.func12, Try.ntmps12
    go_wp2_with (go_at_call 23; refine (has_any _ n _ _ _ (by assumption)).mono ?_; rintro e w' ⟨rfl, rfl⟩)
    go_ret
    exact ⟨rfl, rfl⟩

end Go.Proofs.Ytlafnjkcogdljaa
