/- UnionPlays: the walk. -/
import Derived.Test.YtlafnjkcogdljaaF
import Derived.BigQuiet
import Derived.Deep.QuietTactic
import Derived.Deep.RegionHeld3
namespace Go.Proofs.Ytlafnjkcogdljaa
open Go.RowKit

/-- The pairs that came in. -/
def Pairs (w : World) (p : Option Addr) (ps : List (Int × Int)) : Prop :=
  ∀ (i : Nat) (A C : Int), ps[i]? = some (A, C) → ∃ b off, p = some ⟨b, off, none⟩ ∧ b < w.heap.size ∧
    ∀ (j : Nat) (A C : Int), ps[j]? = some (A, C) → w.cell? ⟨b, off + j * 2, none⟩ = some (.int .i64 A) ∧ w.cell? ⟨b, off + j * 2 + 1, none⟩ = some (.int .i64 C)

set_option maxRecDepth 100000 in
theorem guard_walk (n : Int) (p : Option Addr) (len cap : Nat) (w : World) (hg : n < 0 ∨ 60 < n ∨ (0 ≤ n ∧ n ≤ 60 ∧ 80 < len)) :
    Calls Try.prog 3 #[.int .i64 n, .slice p len cap] w fun e w' => e = .returned (.bool true) ∧ Upd [] w w' := by
  rcases hg with h | h | ⟨h0, h1, h2⟩
  · go_enter Try.func3, Try.ntmps3
    go_wp2_with (go_at_call 7; refine (awake_any _).mono ?_; rintro e w' ⟨rfl, hu⟩)
    go_ret
    exact ⟨rfl, hu⟩
  · have h0 : ¬ n < 0 := by omega
    go_enter Try.func3, Try.ntmps3
    go_wp2_with (go_at_call 7; refine (awake_any _).mono ?_; rintro e w' ⟨rfl, hu⟩)
    go_ret
    exact ⟨rfl, hu⟩
  · go_enter Try.func3, Try.ntmps3
    go_wp2_with (go_at_call 7; refine (awake_any _).mono ?_; rintro e w' ⟨rfl, hu⟩)
    go_ret
    exact ⟨rfl, hu⟩

set_option maxRecDepth 100000 in
set_option maxHeartbeats 4000000 in
theorem plays_walk (n : Nat) (p : Option Addr) (len cap : Nat) (ps : List (Int × Int)) (w : World) (hn : n ≤ 60) (hlen : len ≤ 80) (hps : ps.length = len) (hl : Pairs w p ps) :
    Calls Try.prog 3 #[.int .i64 n, .slice p len cap] w fun e w' => e = .returned (.bool true) ∧ Upd [] w w' := by
  have HPS := Lib.hid hps
  have HL := Lib.hid hl
  clear hps hl
  go_enter Try.func3, Try.ntmps3
  go_wp2_with fail
  refine (new_any n (by omega) w).mono ?_
  rintro e w1 ⟨rfl, h1, U1⟩
  obtain ⟨s, hs⟩ : ∃ s, s = w.heap.size := ⟨_, rfl⟩
  obtain ⟨b, hb⟩ : ∃ s, s = w.heap.size + 1 := ⟨_, rfl⟩
  rw [← hb, ← hs] at h1
  rw [← hs]
  have hS : ∀ k, k ∈ [s, b] → k < w.heap.size → k ∈ ([] : List Nat) := by simp; omega
  have HS := Lib.hid hS
  clear hs hb hS
  go_wp2_with fail
  refine (rnew_any n w1.heap.size (by omega) w1 rfl).mono ?_
  rintro e w2 ⟨⟨v6, rfl, ho⟩, U2⟩
  have h2 := h1.upd U2 (by simp) (by simp)
  have hlt := h1.lt
  have hB : ∀ k, k ∈ [s, b] → k < w1.heap.size := by simp; omega
  have HB := Lib.hid hB
  have U3 := U1.trans U2
  have hle := U1.size
  obtain ⟨B, hBB⟩ : ∃ B, B = w1.heap.size := ⟨_, rfl⟩
  rw [← hBB] at HB ho hlt hle
  clear hB hBB h1 U1 U2
  go_wp2_with fail
  go_loopw [6, 36] (fun v i wr => ∃ k : Nat, k ≤ len ∧ i = .int .i64 k ∧ ∃ x, SetsAt wr s b n x ∧ Own wr B v x ∧ Upd [] w wr) (fun _ i _ => len - (intOf i).toNat)
  case atStart => exact ⟨0, Nat.zero_le _, rfl, _, h2, ho, U3⟩
  case round =>
    obtain ⟨k, hk, rfl, x, h3, ho3, U4⟩ := hrel
    obtain ⟨xp, xcap, rfl, _⟩ := ho3.read
    have hxl := h3.len
    have hx60 : x.length ≤ 60 := by omega
    have HXL := Lib.hid hxl
    clear hxl
    by_cases hkl : k < len
    · obtain ⟨⟨A, C⟩, hp⟩ : ∃ u, ps[k]? = some u := ⟨ps[k]'(by have := HPS.out; omega), List.getElem?_eq_getElem _⟩
      obtain ⟨pb, po, rfl, hpb, hcells⟩ := HL.out k A C hp
      obtain ⟨hA0, hC0⟩ := hcells k A C hp
      have hA := (U4.cell (p := ⟨pb, po + k * 2, none⟩) hpb (by simp)).trans hA0
      have hC := (U4.cell (p := ⟨pb, po + k * 2 + 1, none⟩) hpb (by simp)).trans hC0
      clear hcells hA0 hC0 hp
      by_cases hin : inB n A = true ∧ inB n C = true
      · obtain ⟨hiA, hiC⟩ := hin
        obtain ⟨a, hAA, ha⟩ := inB_out hiA
        obtain ⟨c, hCC, hc⟩ := inB_out hiC
        have hla : a < x.length := by have := HXL.out; omega
        have hlc : c < x.length := by have := HXL.out; omega
        obtain ⟨xa, hxa⟩ : ∃ u, x[a]? = some u := ⟨x[a], List.getElem?_eq_getElem hla⟩
        obtain ⟨xc, hxc⟩ : ∃ u, x[c]? = some u := ⟨x[c], List.getElem?_eq_getElem hlc⟩
        have ex : eqB x A.toNat C.toNat = decide (xa = xc) := by
          rw [hAA, hCC, Int.toNat_natCast, Int.toNat_natCast]; unfold eqB; rw [hxa, hxc]; rfl
        have HXA := Lib.hid hxa
        have HXC := Lib.hid hxc
        have HAA := Lib.hid hAA
        have HCC := Lib.hid hCC
        have HEX := Lib.hid ex
        clear hxa hxc hAA hCC ex
        go_wp2_with fail
        have hc0 : (wr.alloc (.cells #[.int .i64 A, .int .i64 C] 29)).cell? ⟨wr.heap.size, 0, none⟩ = some (.int .i64 A) := (IsRow.new wr [.int .i64 A, .int .i64 C] 29).cell 0
        have hc1 : (wr.alloc (.cells #[.int .i64 A, .int .i64 C] 29)).cell? ⟨wr.heap.size, 1, none⟩ = some (.int .i64 C) := (IsRow.new wr [.int .i64 A, .int .i64 C] 29).cell 1
        have ua : Upd [] wr (wr.alloc (.cells #[.int .i64 A, .int .i64 C] 29)) := (Upd.refl [] wr).alloc _
        have h4 := h3.upd ua (by simp) (by simp)
        have ho4 := ho3.kept ua (by simp)
        have U5 := U4.trans ua
        have hq0 := h3.lt
        have hq2 : wr.heap.size < (wr.alloc (.cells #[.int .i64 A, .int .i64 C] 29)).heap.size := by simp
        clear hA hC h3 ho3 U4 ua
        generalize wr.alloc (.cells #[.int .i64 A, .int .i64 C] 29) = w4 at hc0 hc1 h4 ho4 U5 hq2 ⊢
        obtain ⟨q, hq⟩ : ∃ q, q = wr.heap.size := ⟨_, rfl⟩
        rw [← hq] at hc0 hc1 hq2 hq0 ⊢
        have hqn : q ∉ [s, b] := by simp; omega
        have HQ := Lib.hid hqn
        clear hq hqn
        as_aux_lemma =>
          refine (join_in s b n x A C w4 h4 hiA hiC).mono ?_
          rintro e w5 ⟨rfl, h5, U6⟩
          have hc0' := (U6.cell (p := ⟨q, 0, none⟩) hq2 HQ.out).trans hc0
          have hc1' := (U6.cell (p := ⟨q, 1, none⟩) hq2 HQ.out).trans hc1
          have ho5 := ho4.kept U6 HB.out
          have U7 := (U5.mono (S' := [s, b]) (by simp)).trans U6
          have hq3 := Nat.lt_of_lt_of_le hq2 U6.size
          clear hc0 hc1 ho4 h4 U5 U6 hq2
          rw [HEX.out]
          go_wp2_with (go_at_call 11; refine (within_in _ _ _).mono ?_; rintro e w' ⟨rfl, rfl⟩)
          have eA := HAA.out
          have eC := HCC.out
          subst eA eC
          rw [Int.toNat_natCast, Int.toNat_natCast] at h5
          obtain ⟨g, rfl, hBg, hgw, hcells⟩ := Own.at' ho5 HXA.out
          have hgB : B ≤ w5.heap.size := by omega
          have cxa := hcells a xa HXA.out
          have cxc := hcells c xc HXC.out
          clear hcells
          by_cases exy : xa = xc
          · have t1 : decide (xa = xc) = true := decide_eq_true exy
            have t2 : ((xa : Int) != (xc : Int)) = false := by simp [exy]
            have HE := Lib.hid exy
            clear exy
            rw [t1]
            go_quiet (fail)
            have ud : Upd [] w5 (w5.drewN nq) := ⟨rfl, rfl, rfl, Nat.le_refl _, fun _ _ _ => rfl⟩
            have h6 := h5.upd ud (by simp) (by simp)
            have ho6 := ho5.kept ud (by simp)
            have hd0 := (ud.cell (p := ⟨q, 0, none⟩) hq3 (by simp)).trans hc0'
            have hd1 := (ud.cell (p := ⟨q, 1, none⟩) hq3 (by simp)).trans hc1'
            have U8 := U7.trans (ud.mono (by simp))
            have hq4 := Nat.lt_of_lt_of_le hq3 ud.size
            have hle6 := ud.size
            clear h5 ho5 hc0' hc1' U7 hq3 ud cxa cxc t1 t2
            generalize w5.drewN nq = w6 at h6 ho6 hd0 hd1 U8 hq4 hle6 ⊢
            as_aux_lemma =>
              go_wp2_with fail
              refine (rjoin_any B _ x a c w6 ho6 (inB_nat _ _ hla) (inB_nat _ _ hlc) (by omega)).mono ?_
              rintro e w7 ⟨⟨v7, rfl, ho7⟩, U9⟩
              rw [Int.toNat_natCast, Int.toNat_natCast] at ho7
              have hbs := Nat.le_trans hgB hle6
              have ho8 := ho7.mono hbs
              have h7 := h6.upd U9 (by simp) (by simp)
              have he0 := (U9.cell (p := ⟨q, 0, none⟩) hq4 (by simp)).trans hd0
              have he1 := (U9.cell (p := ⟨q, 1, none⟩) hq4 (by simp)).trans hd1
              have U10 := U8.trans (U9.mono (by simp))
              have hq5 := Nat.lt_of_lt_of_le hq4 U9.size
              have hjl : (joinX x a c).length ≤ 60 := by rw [joinX_len]; exact hx60
              clear ho6 ho7 h6 hd0 hd1 U8 U9 hq4 hbs
              go_wp2_with fail
              refine (same_in s b n (joinX x a c) a c w7 h7 hiA hiC).mono ?_
              rintro e w8 ⟨rfl, h8, U11⟩
              have HJ : eqB (joinX x a c) ((a : Int)).toNat ((c : Int)).toNat = true := by rw [Int.toNat_natCast, Int.toNat_natCast]; exact eqB_join x a c hla hlc
              rw [HJ]
              clear HJ
              have ho9 := ho8.kept U11 HB.out
              have U12 := U10.trans U11
              have hcc := h8.cc
              clear ho8 h7 he0 he1 U10 U11
              go_wp2_with fail
              refine (count_any s _ w8 hcc).mono ?_
              rintro e w' ⟨rfl, rfl⟩
              go_wp2_with fail
              refine (count_list B v7 (joinX x a c) w8 ho9 (by omega)).mono ?_
              rintro e w' ⟨rfl, rfl⟩
              go_wp2_with fail
              go_roundw
              case rel => exact ⟨k + 1, by omega, by go_num, _, h8, ho9, U12.shrink HS.out⟩
              case measure => simp [intOf]; omega
          · have t1 : decide (xa = xc) = false := decide_eq_false exy
            have t2 : ((xa : Int) != (xc : Int)) = true := by simp; omega
            have HE := Lib.hid exy
            clear exy
            rw [t1]
            go_quiet (fail)
            have ud : Upd [] w5 (w5.drewN nq) := ⟨rfl, rfl, rfl, Nat.le_refl _, fun _ _ _ => rfl⟩
            have h6 := h5.upd ud (by simp) (by simp)
            have ho6 := ho5.kept ud (by simp)
            have hd0 := (ud.cell (p := ⟨q, 0, none⟩) hq3 (by simp)).trans hc0'
            have hd1 := (ud.cell (p := ⟨q, 1, none⟩) hq3 (by simp)).trans hc1'
            have U8 := U7.trans (ud.mono (by simp))
            have hq4 := Nat.lt_of_lt_of_le hq3 ud.size
            have hle6 := ud.size
            clear h5 ho5 hc0' hc1' U7 hq3 ud cxa cxc t1 t2
            generalize w5.drewN nq = w6 at h6 ho6 hd0 hd1 U8 hq4 hle6 ⊢
            as_aux_lemma =>
              go_wp2_with fail
              refine (rjoin_any B _ x a c w6 ho6 (inB_nat _ _ hla) (inB_nat _ _ hlc) (by omega)).mono ?_
              rintro e w7 ⟨⟨v7, rfl, ho7⟩, U9⟩
              rw [Int.toNat_natCast, Int.toNat_natCast] at ho7
              have hbs := Nat.le_trans hgB hle6
              have ho8 := ho7.mono hbs
              have h7 := h6.upd U9 (by simp) (by simp)
              have he0 := (U9.cell (p := ⟨q, 0, none⟩) hq4 (by simp)).trans hd0
              have he1 := (U9.cell (p := ⟨q, 1, none⟩) hq4 (by simp)).trans hd1
              have U10 := U8.trans (U9.mono (by simp))
              have hq5 := Nat.lt_of_lt_of_le hq4 U9.size
              have hjl : (joinX x a c).length ≤ 60 := by rw [joinX_len]; exact hx60
              clear ho6 ho7 h6 hd0 hd1 U8 U9 hq4 hbs
              go_wp2_with fail
              refine (same_in s b n (joinX x a c) a c w7 h7 hiA hiC).mono ?_
              rintro e w8 ⟨rfl, h8, U11⟩
              have HJ : eqB (joinX x a c) ((a : Int)).toNat ((c : Int)).toNat = true := by rw [Int.toNat_natCast, Int.toNat_natCast]; exact eqB_join x a c hla hlc
              rw [HJ]
              clear HJ
              have ho9 := ho8.kept U11 HB.out
              have U12 := U10.trans U11
              have hcc := h8.cc
              clear ho8 h7 he0 he1 U10 U11
              go_wp2_with fail
              refine (count_any s _ w8 hcc).mono ?_
              rintro e w' ⟨rfl, rfl⟩
              go_wp2_with fail
              refine (count_list B v7 (joinX x a c) w8 ho9 (by omega)).mono ?_
              rintro e w' ⟨rfl, rfl⟩
              go_wp2_with fail
              go_roundw
              case rel => exact ⟨k + 1, by omega, by go_num, _, h8, ho9, U12.shrink HS.out⟩
              case measure => simp [intOf]; omega
      · have hor : inB n A = false ∨ (inB n A = true ∧ inB n C = false) := by
          cases e1 : inB n A <;> cases e2 : inB n C <;> simp_all
        clear hin
        rcases hor with hiA | ⟨hiA, hiC⟩
        · skip
          go_wp2_with fail
          have hc0 : (wr.alloc (.cells #[.int .i64 A, .int .i64 C] 29)).cell? ⟨wr.heap.size, 0, none⟩ = some (.int .i64 A) := (IsRow.new wr [.int .i64 A, .int .i64 C] 29).cell 0
          have hc1 : (wr.alloc (.cells #[.int .i64 A, .int .i64 C] 29)).cell? ⟨wr.heap.size, 1, none⟩ = some (.int .i64 C) := (IsRow.new wr [.int .i64 A, .int .i64 C] 29).cell 1
          have ua : Upd [] wr (wr.alloc (.cells #[.int .i64 A, .int .i64 C] 29)) := (Upd.refl [] wr).alloc _
          have h4 := h3.upd ua (by simp) (by simp)
          have ho4 := ho3.kept ua (by simp)
          have U5 := U4.trans ua
          have hq0 := h3.lt
          have hq2 : wr.heap.size < (wr.alloc (.cells #[.int .i64 A, .int .i64 C] 29)).heap.size := by simp
          clear hA hC h3 ho3 U4 ua
          generalize wr.alloc (.cells #[.int .i64 A, .int .i64 C] 29) = w4 at hc0 hc1 h4 ho4 U5 hq2 ⊢
          obtain ⟨q, hq⟩ : ∃ q, q = wr.heap.size := ⟨_, rfl⟩
          rw [← hq] at hc0 hc1 hq2 hq0 ⊢
          have hqn : q ∉ [s, b] := by simp; omega
          have HQ := Lib.hid hqn
          clear hq hqn
          as_aux_lemma =>
            have hcl := h4.cl
            have hor : inB n A = false ∨ (inB n A = true ∧ inB n C = false) := by first | exact .inl hiA | exact .inr ⟨hiA, hiC⟩
            have HOR := Lib.hid hor
            clear hor
            refine (join_no s n _ A C w4 hcl HOR.out).mono ?_
            rintro e w' ⟨rfl, rfl⟩
            go_wp2_with (go_at_call 11; refine (within_in _ _ _).mono ?_; rintro e w' ⟨rfl, rfl⟩)
            refine (same_no s n _ A C w4 hcl HOR.out).mono ?_
            rintro e w' ⟨rfl, rfl⟩
            go_wp2_with fail
            go_roundw
            case rel => exact ⟨k + 1, by omega, by go_num, _, h4, ho4, U5⟩
            case measure => simp [intOf]; omega
        · skip
          go_wp2_with fail
          have hc0 : (wr.alloc (.cells #[.int .i64 A, .int .i64 C] 29)).cell? ⟨wr.heap.size, 0, none⟩ = some (.int .i64 A) := (IsRow.new wr [.int .i64 A, .int .i64 C] 29).cell 0
          have hc1 : (wr.alloc (.cells #[.int .i64 A, .int .i64 C] 29)).cell? ⟨wr.heap.size, 1, none⟩ = some (.int .i64 C) := (IsRow.new wr [.int .i64 A, .int .i64 C] 29).cell 1
          have ua : Upd [] wr (wr.alloc (.cells #[.int .i64 A, .int .i64 C] 29)) := (Upd.refl [] wr).alloc _
          have h4 := h3.upd ua (by simp) (by simp)
          have ho4 := ho3.kept ua (by simp)
          have U5 := U4.trans ua
          have hq0 := h3.lt
          have hq2 : wr.heap.size < (wr.alloc (.cells #[.int .i64 A, .int .i64 C] 29)).heap.size := by simp
          clear hA hC h3 ho3 U4 ua
          generalize wr.alloc (.cells #[.int .i64 A, .int .i64 C] 29) = w4 at hc0 hc1 h4 ho4 U5 hq2 ⊢
          obtain ⟨q, hq⟩ : ∃ q, q = wr.heap.size := ⟨_, rfl⟩
          rw [← hq] at hc0 hc1 hq2 hq0 ⊢
          have hqn : q ∉ [s, b] := by simp; omega
          have HQ := Lib.hid hqn
          clear hq hqn
          as_aux_lemma =>
            have hcl := h4.cl
            have hor : inB n A = false ∨ (inB n A = true ∧ inB n C = false) := by first | exact .inl hiA | exact .inr ⟨hiA, hiC⟩
            have HOR := Lib.hid hor
            clear hor
            refine (join_no s n _ A C w4 hcl HOR.out).mono ?_
            rintro e w' ⟨rfl, rfl⟩
            go_wp2_with (go_at_call 11; refine (within_in _ _ _).mono ?_; rintro e w' ⟨rfl, rfl⟩)
            refine (same_no s n _ A C w4 hcl HOR.out).mono ?_
            rintro e w' ⟨rfl, rfl⟩
            go_wp2_with fail
            go_roundw
            case rel => exact ⟨k + 1, by omega, by go_num, _, h4, ho4, U5⟩
            case measure => simp [intOf]; omega
    · have hkn : len = k := by omega
      subst hkn
      clear hk hkl HL
      as_aux_lemma =>
        go_wp2_with fail
        go_loopw [114] (fun i wr => ∃ k : Nat, k ≤ x.length ∧ i = .int .i64 k ∧ SetsAt wr s b n x ∧ Own wr B (.slice xp x.length xcap) x ∧ Upd [] w wr) (fun i _ => x.length - (intOf i).toNat)
        case atStart => exact ⟨0, Nat.zero_le _, rfl, h3, ho3, U4⟩
        case round =>
          obtain ⟨k, hk, rfl, h4, ho4, U5⟩ := hrel
          clear h3 ho3 U4
          by_cases hkl : k < x.length
          · obtain ⟨xk, hxk⟩ : ∃ u, x[k]? = some u := ⟨x[k], List.getElem?_eq_getElem hkl⟩
            have ik : inB n (k : Int) = true := inB_nat _ _ (by have := HXL.out; omega)
            obtain ⟨g, rfl, hBg, hgw, hcells⟩ := Own.at' ho4 hxk
            have hck := hcells k xk hxk
            have HXK := Lib.hid hxk
            clear hcells hxk
            go_wp2_with fail
            refine (least_in s b n x k _ h4 ik).mono ?_
            rintro e w5 ⟨rfl, h5, U6⟩
            have ex : ((x[((k : Int)).toNat]?.getD 0 : Nat) : Int) = (xk : Int) := by rw [Int.toNat_natCast, HXK.out]; rfl
            rw [ex]
            clear ex
            have ho5 := ho4.kept U6 HB.out
            have U7 := ((U5.mono (S' := [s, b]) (by simp)).trans U6).shrink HS.out
            clear h4 ho4 U5 U6 hck hgw
            go_wp2_with fail
            go_loopw [134] (fun i wr => ∃ j : Nat, j ≤ x.length ∧ i = .int .i64 j ∧ SetsAt wr s b n x ∧ Own wr B (.slice (some ⟨g, 0, none⟩) x.length xcap) x ∧ Upd [] w wr) (fun i _ => x.length - (intOf i).toNat)
            case atStart => exact ⟨0, Nat.zero_le _, rfl, h5, ho5, U7⟩
            case round =>
              obtain ⟨j, hj, rfl, h6, ho6, U8⟩ := hrel
              clear h5 ho5 U7
              by_cases hjl : j < x.length
              · obtain ⟨xj, hxj⟩ : ∃ u, x[j]? = some u := ⟨x[j], List.getElem?_eq_getElem hjl⟩
                have ij : inB n (j : Int) = true := inB_nat _ _ (by have := HXL.out; omega)
                obtain ⟨g', hg', _, hgw, hcells⟩ := Own.at' ho6 hxj
                obtain rfl : g = g' := by simpa using hg'
                have c1 := hcells k xk HXK.out
                have c2 := hcells j xj hxj
                have ex : eqB x ((k : Int)).toNat ((j : Int)).toNat = ((xk : Int) == (xj : Int)) := by
                  rw [Int.toNat_natCast, Int.toNat_natCast]; unfold eqB; rw [HXK.out, hxj, Bool.eq_iff_iff]; simp; omega
                have HXJ := Lib.hid hxj
                have HEX := Lib.hid ex
                have h7 := h6.drew
                have hgn : g ∉ [s, b] := fun h => by have := HB.out g h; omega
                have HG := Lib.hid hgn
                clear hgn
                clear hcells hxj ex hg'
                go_wp2_with fail
                go_region_held3 (fun w' => w'.cell? ⟨g, k, none⟩ = some (.int .i64 xk) ∧ w'.cell? ⟨g, j, none⟩ = some (.int .i64 xj)) (first | exact ⟨c1, c2⟩ | exact ⟨c3, c4⟩) (first | (go_at_call 12; refine (same_in s b n x k j _ h7 ik ij).mono ?_; rintro e w8 ⟨rfl, h8, U9⟩; rw [HEX.out]; have c3 := (U9.cell (p := ⟨g, k, none⟩) hgw HG.out).trans c1; have c4 := (U9.cell (p := ⟨g, j, none⟩) hgw HG.out).trans c2))
                all_goals
                  as_aux_lemma =>
                    have h9 := h8
                    have ho7 := (ho6.kept ((Upd.refl [] wr).drew) (by simp)).kept U9 HB.out
                    have U10 := ((U8.drew.mono (S' := [s, b]) (by simp)).trans U9).shrink HS.out
                    clear h6 h7 ho6 U8 U9 c1 c2 c3 c4
                    go_wp2_with fail
                    go_roundw
                    case rel => exact ⟨j + 1, by omega, by go_num, h9, ho7, U10⟩
                    case measure => simp [intOf]; omega
              · go_wp2_with fail
                go_roundw
                case rel => exact ⟨k + 1, by omega, by go_num, h6, ho6, U8⟩
                case measure => simp [intOf]; omega
          · as_aux_lemma =>
              have cl := h4.cl
              have cc := h4.cc
              go_wp2_with fail
              refine (len_any s n _ _ cl).mono ?_
              rintro e w' ⟨rfl, rfl⟩
              go_wp2_with fail
              refine (count_any s _ _ cc).mono ?_
              rintro e w' ⟨rfl, rfl⟩
              go_wp2_with fail
              refine (count_list B _ x _ ho4 (by omega)).mono ?_
              rintro e w' ⟨rfl, rfl⟩
              go_wp2_with fail
              refine (awake_any _).mono ?_
              rintro e w9 ⟨rfl, U11⟩
              go_wp2_with fail
              go_ret
              exact ⟨rfl, U5.trans U11⟩

end Go.Proofs.Ytlafnjkcogdljaa
