/- Sets behind some joins, and the document's list; Numbers. -/
import Derived.Test.YtlafnjkcogdljaaPlays
namespace Go.Proofs.Ytlafnjkcogdljaa
open Go.RowKit

/-- What 'made' hands back. -/
structure MadeAt (w w' : World) (s b B n : Nat) (v : Value) (x : List Nat) : Prop where
  sets : SetsAt w' s b n x
  own : Own w' B v x
  upd : Upd [] w w'
  s0 : w.heap.size ≤ s
  b0 : w.heap.size ≤ b
  sB : s < B
  bB : b < B
  le : B ≤ w'.heap.size

set_option maxRecDepth 100000 in
set_option maxHeartbeats 1000000 in
theorem made_any (n : Nat) (p : Option Addr) (len cap : Nat) (ps : List (Int × Int)) (w : World) (hn : n ≤ 60) (hlen : len ≤ 80) (hps : ps.length = len) (hl : Pairs w p ps) :
    Calls Try.prog 18 #[.int .i64 n, .slice p len cap] w fun e w' => ∃ s b B v x, e = .returned (.tuple #[.pointer (some ⟨s, 0, none⟩), v]) ∧ MadeAt w w' s b B n v x := by
  have HPS := Lib.hid hps
  have HL := Lib.hid hl
  clear hps hl
  go_enter Try.func18, Try.ntmps18
  go_wp2_with fail
  refine (new_any n (by omega) w).mono ?_
  rintro e w1 ⟨rfl, h1, U1⟩
  obtain ⟨s, hs⟩ : ∃ s, s = w.heap.size := ⟨_, rfl⟩
  obtain ⟨b, hb⟩ : ∃ s, s = w.heap.size + 1 := ⟨_, rfl⟩
  rw [← hb, ← hs] at h1
  rw [← hs]
  have hS : ∀ k, k ∈ [s, b] → k < w.heap.size → k ∈ ([] : List Nat) := by simp; omega
  have HS := Lib.hid hS
  have hs0 : w.heap.size ≤ s := by omega
  have hb0 : w.heap.size ≤ b := by omega
  clear hs hb hS
  go_wp2_with fail
  refine (rnew_any n w1.heap.size (by omega) w1 rfl).mono ?_
  rintro e w2 ⟨⟨v6, rfl, ho⟩, U2⟩
  have h2 := h1.upd U2 (by simp) (by simp)
  have hlt := h1.lt
  have hB : ∀ k, k ∈ [s, b] → k < w1.heap.size := by simp; omega
  have HB := Lib.hid hB
  have U3 := U1.trans U2
  have hle := U1.size
  obtain ⟨B, hBB⟩ : ∃ B, B = w1.heap.size := ⟨_, rfl⟩
  have hB2 := U2.size
  rw [← hBB] at HB ho hlt hle hB2
  clear hB hBB h1 U1 U2
  go_wp2_with fail
  go_loopw [7, 19] (fun v i wr => ∃ k : Nat, k ≤ len ∧ i = .int .i64 k ∧ ∃ x, SetsAt wr s b n x ∧ Own wr B v x ∧ Upd [] w wr ∧ B ≤ wr.heap.size) (fun _ i _ => len - (intOf i).toNat)
  case atStart => exact ⟨0, Nat.zero_le _, rfl, _, h2, ho, U3, hB2⟩
  case round =>
    obtain ⟨k, hk, rfl, x, h3, ho3, U4, hB3⟩ := hrel
    obtain ⟨xp, xcap, rfl, _⟩ := ho3.read
    have hxl := h3.len
    have hx60 : x.length ≤ 60 := by omega
    have HXL := Lib.hid hxl
    clear hxl
    by_cases hkl : k < len
    · obtain ⟨⟨A, C⟩, hp⟩ : ∃ u, ps[k]? = some u := ⟨ps[k]'(by have := HPS.out; omega), List.getElem?_eq_getElem _⟩
      obtain ⟨pb, po, rfl, hpb, hcells⟩ := HL.out k A C hp
      obtain ⟨hA0, hC0⟩ := hcells k A C hp
      have hA := (U4.cell (p := ⟨pb, po + k * 2, none⟩) hpb (by simp)).trans hA0
      have hC := (U4.cell (p := ⟨pb, po + k * 2 + 1, none⟩) hpb (by simp)).trans hC0
      clear hcells hA0 hC0 hp
      by_cases hin : inB n A = true ∧ inB n C = true
      · obtain ⟨hiA, hiC⟩ := hin
        obtain ⟨a, hAA, ha⟩ := inB_out hiA
        obtain ⟨c, hCC, hc⟩ := inB_out hiC
        have hla : a < x.length := by have := HXL.out; omega
        have hlc : c < x.length := by have := HXL.out; omega
        have HAA := Lib.hid hAA
        have HCC := Lib.hid hCC
        clear hAA hCC
        go_wp2_with fail
        have hc0 : (wr.alloc (.cells #[.int .i64 A, .int .i64 C] 29)).cell? ⟨wr.heap.size, 0, none⟩ = some (.int .i64 A) := (IsRow.new wr [.int .i64 A, .int .i64 C] 29).cell 0
        have hc1 : (wr.alloc (.cells #[.int .i64 A, .int .i64 C] 29)).cell? ⟨wr.heap.size, 1, none⟩ = some (.int .i64 C) := (IsRow.new wr [.int .i64 A, .int .i64 C] 29).cell 1
        have ua : Upd [] wr (wr.alloc (.cells #[.int .i64 A, .int .i64 C] 29)) := (Upd.refl [] wr).alloc _
        have h4 := h3.upd ua (by simp) (by simp)
        have ho4 := ho3.kept ua (by simp)
        have U5 := U4.trans ua
        have hq0 := h3.lt
        have hq2 : wr.heap.size < (wr.alloc (.cells #[.int .i64 A, .int .i64 C] 29)).heap.size := by simp
        clear hA hC h3 ho3 U4 ua
        generalize wr.alloc (.cells #[.int .i64 A, .int .i64 C] 29) = w4 at hc0 hc1 h4 ho4 U5 hq2 ⊢
        obtain ⟨q, hq⟩ : ∃ q, q = wr.heap.size := ⟨_, rfl⟩
        rw [← hq] at hc0 hc1 hq2 hq0 hB3 ⊢
        have hqn : q ∉ [s, b] := by simp; omega
        have HQ := Lib.hid hqn
        clear hq hqn
        as_aux_lemma =>
          have hB4 : B ≤ w4.heap.size := by omega
          refine (join_in s b n x A C w4 h4 hiA hiC).mono ?_
          rintro e w5 ⟨rfl, h5, U6⟩
          have hc0' := (U6.cell (p := ⟨q, 0, none⟩) hq2 HQ.out).trans hc0
          have hc1' := (U6.cell (p := ⟨q, 1, none⟩) hq2 HQ.out).trans hc1
          have ho5 := ho4.kept U6 HB.out
          have U7 := (U5.mono (S' := [s, b]) (by simp)).trans U6
          have hq3 := Nat.lt_of_lt_of_le hq2 U6.size
          have hB5 := Nat.le_trans hB4 U6.size
          clear hc0 hc1 ho4 h4 U5 U6 hq2 hB4
          go_wp2_with (go_at_call 11; refine (within_in _ _ _).mono ?_; rintro e w' ⟨rfl, rfl⟩)
          have eA := HAA.out
          have eC := HCC.out
          subst eA eC
          refine (rjoin_any B _ x a c w5 ho5 (inB_nat _ _ hla) (inB_nat _ _ hlc) (by omega)).mono ?_
          rintro e w7 ⟨⟨v7, rfl, ho7⟩, U9⟩
          have ho8 := ho7.mono hB5
          have h7 := h5.upd U9 (by simp) (by simp)
          have U10 := (U7.trans (U9.mono (by simp))).shrink HS.out
          have hB6 := Nat.le_trans hB5 U9.size
          clear ho7 h5 U7 U9 hB5
          go_wp2_with fail
          go_roundw
          case rel => exact ⟨k + 1, by omega, by go_num, _, h7, ho8, U10, hB6⟩
          case measure => simp [intOf]; omega
      · have hor : inB n A = false ∨ (inB n A = true ∧ inB n C = false) := by
          cases e1 : inB n A <;> cases e2 : inB n C <;> simp_all
        clear hin
        rcases hor with hiA | ⟨hiA, hiC⟩
        · skip
          go_wp2_with fail
          have hc0 : (wr.alloc (.cells #[.int .i64 A, .int .i64 C] 29)).cell? ⟨wr.heap.size, 0, none⟩ = some (.int .i64 A) := (IsRow.new wr [.int .i64 A, .int .i64 C] 29).cell 0
          have hc1 : (wr.alloc (.cells #[.int .i64 A, .int .i64 C] 29)).cell? ⟨wr.heap.size, 1, none⟩ = some (.int .i64 C) := (IsRow.new wr [.int .i64 A, .int .i64 C] 29).cell 1
          have ua : Upd [] wr (wr.alloc (.cells #[.int .i64 A, .int .i64 C] 29)) := (Upd.refl [] wr).alloc _
          have h4 := h3.upd ua (by simp) (by simp)
          have ho4 := ho3.kept ua (by simp)
          have U5 := U4.trans ua
          have hq0 := h3.lt
          have hq2 : wr.heap.size < (wr.alloc (.cells #[.int .i64 A, .int .i64 C] 29)).heap.size := by simp
          clear hA hC h3 ho3 U4 ua
          generalize wr.alloc (.cells #[.int .i64 A, .int .i64 C] 29) = w4 at hc0 hc1 h4 ho4 U5 hq2 ⊢
          obtain ⟨q, hq⟩ : ∃ q, q = wr.heap.size := ⟨_, rfl⟩
          rw [← hq] at hc0 hc1 hq2 hq0 hB3 ⊢
          have hqn : q ∉ [s, b] := by simp; omega
          have HQ := Lib.hid hqn
          clear hq hqn
          as_aux_lemma =>
            have hB4 : B ≤ w4.heap.size := by omega
            have hcl := h4.cl
            have hor : inB n A = false ∨ (inB n A = true ∧ inB n C = false) := by first | exact .inl hiA | exact .inr ⟨hiA, hiC⟩
            have HOR := Lib.hid hor
            clear hor
            refine (join_no s n _ A C w4 hcl HOR.out).mono ?_
            rintro e w' ⟨rfl, rfl⟩
            go_wp2_with (go_at_call 11; refine (within_in _ _ _).mono ?_; rintro e w' ⟨rfl, rfl⟩)
            go_roundw
            case rel => exact ⟨k + 1, by omega, by go_num, _, h4, ho4, U5, hB4⟩
            case measure => simp [intOf]; omega
        · skip
          go_wp2_with fail
          have hc0 : (wr.alloc (.cells #[.int .i64 A, .int .i64 C] 29)).cell? ⟨wr.heap.size, 0, none⟩ = some (.int .i64 A) := (IsRow.new wr [.int .i64 A, .int .i64 C] 29).cell 0
          have hc1 : (wr.alloc (.cells #[.int .i64 A, .int .i64 C] 29)).cell? ⟨wr.heap.size, 1, none⟩ = some (.int .i64 C) := (IsRow.new wr [.int .i64 A, .int .i64 C] 29).cell 1
          have ua : Upd [] wr (wr.alloc (.cells #[.int .i64 A, .int .i64 C] 29)) := (Upd.refl [] wr).alloc _
          have h4 := h3.upd ua (by simp) (by simp)
          have ho4 := ho3.kept ua (by simp)
          have U5 := U4.trans ua
          have hq0 := h3.lt
          have hq2 : wr.heap.size < (wr.alloc (.cells #[.int .i64 A, .int .i64 C] 29)).heap.size := by simp
          clear hA hC h3 ho3 U4 ua
          generalize wr.alloc (.cells #[.int .i64 A, .int .i64 C] 29) = w4 at hc0 hc1 h4 ho4 U5 hq2 ⊢
          obtain ⟨q, hq⟩ : ∃ q, q = wr.heap.size := ⟨_, rfl⟩
          rw [← hq] at hc0 hc1 hq2 hq0 hB3 ⊢
          have hqn : q ∉ [s, b] := by simp; omega
          have HQ := Lib.hid hqn
          clear hq hqn
          as_aux_lemma =>
            have hB4 : B ≤ w4.heap.size := by omega
            have hcl := h4.cl
            have hor : inB n A = false ∨ (inB n A = true ∧ inB n C = false) := by first | exact .inl hiA | exact .inr ⟨hiA, hiC⟩
            have HOR := Lib.hid hor
            clear hor
            refine (join_no s n _ A C w4 hcl HOR.out).mono ?_
            rintro e w' ⟨rfl, rfl⟩
            go_wp2_with (go_at_call 11; refine (within_in _ _ _).mono ?_; rintro e w' ⟨rfl, rfl⟩)
            go_roundw
            case rel => exact ⟨k + 1, by omega, by go_num, _, h4, ho4, U5, hB4⟩
            case measure => simp [intOf]; omega
    · have hkn : len = k := by omega
      subst hkn
      go_wp2_with fail
      go_ret2
      exact ⟨s, b, B, _, x, rfl, ⟨h3, ho3, U4, hs0, hb0, hlt.1, hlt.2, hB3⟩⟩

end Go.Proofs.Ytlafnjkcogdljaa
