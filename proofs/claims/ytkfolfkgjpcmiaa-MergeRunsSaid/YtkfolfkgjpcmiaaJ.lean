/- Runs: the iterator. -/
import Derived.Test.YtkfolfkgjpcmiaaHMath
import Derived.Test.YtkfolfkgjpcmiaaRange
namespace Go.Proofs.Ytkfolfkgjpcmiaa
open Go.RowKit

theorem clone_any' (p : Option Addr) (c n : Nat) (xs : List Int) (w : World) (hx : View w p c xs) (hn : xs.length ≤ 1048576) (h1 : xs.length = n) :
    Calls Try.prog 22 #[.slice p n c] w fun e w' => (∃ v, e = .returned v ∧ Own w' w.heap.size v xs) ∧ Upd [] w w' := by
  subst h1
  exact clone_any p c xs w hx hn

theorem same17 (a b : Int) (w : World) : Calls Try.prog 17 #[.int .i64 a, .int .i64 b] w fun e w' => e = .returned (.bool (ord a b == 0)) ∧ w' = w := by
  go_enter Try.func17, Try.ntmps17
  go_wp2_with (go_at_call 11; refine (ord_any _ _ _).mono ?_; rintro e w' ⟨rfl, rfl⟩)
  go_ret
  exact ⟨rfl, rfl⟩

theorem same25 (a b : Int) (q : Nat) (w : World) (hc : w.cell? ⟨q, 0, none⟩ = some (.func (.func 11) #[] #[])) : Calls Try.prog 25 #[.int .i64 a, .int .i64 b, .pointer (some ⟨q, 0, none⟩)] w fun e w' => e = .returned (.bool (ord a b == 0)) ∧ w' = w := by
  go_enter Try.func25, Try.ntmps25
  go_wp2_with (go_at_call 11; refine (ord_any _ _ _).mono ?_; rintro e w' ⟨rfl, rfl⟩)
  go_ret
  exact ⟨rfl, rfl⟩

theorem runs_any (p : Option Addr) (n c : Nat) (f : Fn) (y z : Array Value) (w : World) : Calls Try.prog 16 #[.slice p n c, .func f y z] w fun e w' => e = .returned (.func (.func 24) #[] #[.pointer (some ⟨w.heap.size, 0, none⟩), .pointer (some ⟨w.heap.size + 1, 0, none⟩)]) ∧ w' = (w.alloc (.cells #[.slice p n c] 22 (0, 0))).alloc (.cells #[.func f y z] 34 (0, 0)) := by
  go_enter Try.func16, Try.ntmps16
  go_wp2
  go_ret
  exact ⟨by simp, rfl⟩

/-- how many numbers in all -/
def tot (ys : List (Value × List Int)) : Nat := total (ys.map (·.2))
theorem tot_one (ys : List (Value × List Int)) (y : Value × List Int) : tot (ys ++ [y]) = tot ys + y.2.length := by
  unfold tot
  rw [List.map_append, total_append]
  simp [total]

def RAdm (xs : List Int) (B : Nat) (pre : List (Value × List Int)) (y : Value × List Int) (W : World) : Prop := Piece xs (tot pre) y.2 ∧ Own W B y.1 y.2

/-- f: where the piece begins; i: up to where it's looked at. -/
structure RInv (xs : List Int) (f i : Nat) (pre : List (Value × List Int)) : Prop where
  lt : f < i
  le : i ≤ xs.length + 1
  fin : i = xs.length + 1 → f = xs.length
  tot : tot pre = f
  head : f < xs.length → isHead xs f = true
  same : ∀ k, f < k → k < i → k < xs.length → isHead xs k = false

theorem RInv.start (xs : List Int) : RInv xs 0 1 [] := ⟨by omega, by omega, by omega, rfl, fun _ => by unfold isHead; simp, fun k h1 h2 => by omega⟩
theorem RInv.done {xs : List Int} {f i pre} (h : RInv xs f i pre) (hi : xs.length < i) : Ytkfolfkgjpcmiaa.tot pre = xs.length := by
  rw [h.tot]; exact h.fin (by have := h.le; omega)

theorem RInv.more {xs : List Int} {f j : Nat} {pre} (h : RInv xs f (j + 1) pre) (hl : j + 1 < xs.length) {a b : Int} (ha : xs[j]? = some a) (hb : xs[j + 1]? = some b) (he : key a = key b) : RInv xs f (j + 1 + 1) pre := by
  have hlt := h.lt
  refine ⟨by omega, by omega, by omega, h.tot, h.head, fun k h1 h2 h3 => ?_⟩
  by_cases e : k = j + 1
  · subst e
    unfold isHead
    refine decide_eq_false ?_
    rw [Nat.add_sub_cancel, nth_of ha, nth_of hb]
    omega
  · exact h.same k h1 (by omega) h3

theorem RInv.cut {xs : List Int} {f i : Nat} {pre} (h : RInv xs f i pre) (hc : i = xs.length ∨ ∃ a b, xs[i - 1]? = some a ∧ xs[i]? = some b ∧ key a ≠ key b) :
    Piece xs (Ytkfolfkgjpcmiaa.tot pre) ((xs.drop f).take (i - f)) ∧ ∀ v, RInv xs i (i + 1) (pre ++ [(v, (xs.drop f).take (i - f))]) := by
  have hlt := h.lt
  have hil : i ≤ xs.length := by
    rcases hc with hc | ⟨a, b, _, hb, _⟩
    · omega
    · have := (List.getElem?_eq_some_iff.1 hb).1; omega
  have hlen : ((xs.drop f).take (i - f)).length = i - f := by rw [List.length_take, List.length_drop]; omega
  have hhead : i = xs.length ∨ isHead xs i = true := by
    rcases hc with hc | ⟨a, b, ha, hb, he⟩
    · exact .inl hc
    · refine .inr ?_
      unfold isHead
      refine decide_eq_true (.inr ?_)
      rw [nth_of ha, nth_of hb]
      exact he
  have e1 : f + (i - f) = i := by omega
  refine ⟨?_, fun v => ⟨by omega, by omega, by omega, ?_, ?_, fun k h1 h2 h3 => by omega⟩⟩
  · rw [h.tot]
    refine ⟨by rw [hlen]; omega, by rw [hlen]; omega, by rw [hlen], h.head (by omega), fun k h1 h2 => ?_, ?_⟩
    · rw [hlen, e1] at h2
      exact h.same k h1 h2 (by omega)
    · rw [hlen, e1]; exact hhead
  · rw [tot_one, h.tot]
    simp only [hlen]
    omega
  · intro hlt2
    rcases hhead with e | e
    · omega
    · exact e

structure RKeep17 (B : Nat) (W : World) (q1 q2 : Nat) (p : Option Addr) (c : Nat) (xs : List Int) : Prop where
  r1 : IsRow W q1 22 [.slice p xs.length c]
  r2 : IsRow W q2 34 [.func (.func 17) #[] #[]]
  
  v : View W p c xs
  b1 : q1 < B
  b2 : q2 < B
  
  lp : ∀ (i : Nat) (x : Int), xs[i]? = some x → ∃ b off, p = some ⟨b, off, none⟩ ∧ b < B
  le : B ≤ W.heap.size

theorem RKeep17.low {B : Nat} {W W' : World} {q1 q2 : Nat} {p : Option Addr} {c : Nat} {xs : List Int} (h : RKeep17 B W q1 q2 p c xs) {X : List Nat} (l : Low X B W W') (hq : ∀ k, k ∈ [q1, q2] → k ∉ X)
    (hpx : 0 < xs.length → ∀ b off, p = some ⟨b, off, none⟩ → b ∉ X) : RKeep17 B W' q1 q2 p c xs := by
  refine ⟨l.row h.r1 h.b1 (hq _ (by simp)), l.row h.r2 h.b2 (hq _ (by simp)), ⟨h.v.le, h.v.max, h.v.nil, fun i x hi => ?_⟩, h.b1, h.b2, h.lp, Nat.le_trans h.le l.size⟩
  obtain ⟨b, off, e1, h2, h3⟩ := h.v.cells i x hi
  obtain ⟨b', off', e2, hb⟩ := h.lp i x hi
  rw [e1] at e2
  cases e2
  exact ⟨b, off, e1, Nat.lt_of_lt_of_le h2 l.size, fun j y hj => (World.cell?_of_block (a := ⟨b, off + j, none⟩) (l.low b h2 hb (hpx (by have := (List.getElem?_eq_some_iff.1 hi).1; omega) b off e1))).trans (h3 j y hj)⟩

set_option maxRecDepth 100000 in
set_option maxHeartbeats 1000000 in
theorem runs_iter17 (n' : Nat) (w : World) (q1 q2 : Nat) (p : Option Addr) (c : Nat) (xs : List Int) (X : List Nat) (hv : View w p c xs) (hn : xs.length ≤ 1048576) (h1 : IsRow w q1 22 [.slice p xs.length c])
    (h2 : IsRow w q2 34 [.func (.func 17) #[] #[]]) (hq : ∀ k, k ∈ [q1, q2] → k ∉ X) (hpx : 0 < xs.length → ∀ b off k, p = some ⟨b, off, k⟩ → b ∉ X) :
    Iter n' Try.prog 24 #[.pointer (some ⟨q1, 0, none⟩), .pointer (some ⟨q2, 0, none⟩)] (fun y : Value × List Int => #[y.1]) [] X (RAdm xs w.heap.size) (fun ys => tot ys = xs.length) (fun _ => True) w := by
  intro l B J Jx W hW hB hJ hJx hY h0
  have hk0 : RKeep17 w.heap.size W q1 q2 p c xs := ⟨h1.upd hW (by simp), h2.upd hW (by simp), hv.upd hW, h1.lt, h2.lt, (fun i x hi => by obtain ⟨b, off, e1, e2, _⟩ := hv.cells i x hi; exact ⟨b, off, e1, e2⟩), hW.size⟩
  have HY := Lib.hid hY
  have HJ := Lib.hid hJ
  have HQ := Lib.hid hq
  have HPX := Lib.hid hpx
  have HK0 := Lib.hid hk0
  clear hY hJ hJx h1 h2 hv hW hB hq hpx hk0
  refine callsIn_wide.2 ?_
  show Calls Try.prog 24 #[.func (.yield l) #[] #[], .pointer (some ⟨q1, 0, none⟩), .pointer (some ⟨q2, 0, none⟩)] W _
  go_enter Try.func24, Try.ntmps24
  go_wp2_with fail
  go_loopw [4, 5] (fun u4 u5 wr => ∃ (f i : Nat) (pre : List (Value × List Int)), u4 = .int .i64 f ∧ u5 = .int .i64 i ∧ RInv xs f i pre ∧ J pre wr ∧ RKeep17 w.heap.size wr q1 q2 p c xs) (fun _ u5 _ => xs.length + 1 - (intOf u5).toNat)
  case atStart => exact ⟨0, 1, [], rfl, rfl, RInv.start xs, h0, HK0.out⟩
  case round =>
    clear h0 HK0
    obtain ⟨f, i, pre, rfl, rfl, hinv, hj, hk⟩ := hrel
    have hfi := hinv.lt
    have hile := hinv.le
    have HI := Lib.hid hinv
    clear hinv
    have c1 := hk.r1.cell 0
    have c2 := hk.r2.cell 0
    skip
    simp only [List.getElem?_cons_zero] at c1 c2
    by_cases hil : i ≤ xs.length
    · have hxl : 0 < xs.length := by omega
      obtain ⟨x0, hx0⟩ : ∃ a, xs[0]? = some a := ⟨xs[0], List.getElem?_eq_getElem hxl⟩
      obtain ⟨bp, op, rfl, hbp⟩ := hk.lp 0 x0 hx0
      have hvc := hk.v
      have hcle := hvc.le
      have hfc : ¬ c = f := by omega
      have a1 : (f : Int) ≤ (i : Int) := by omega
      have a2 : (i : Int) ≤ (c : Int) := by omega
      have a3 : (0 : Int) ≤ (i : Int) := by omega
      clear hx0
      have HV := Lib.hid hvc
      have HK := Lib.hid hk
      clear hvc hk
      by_cases hie : i < xs.length
      · obtain ⟨j, rfl⟩ : ∃ j, i = j + 1 := ⟨i - 1, by omega⟩
        obtain ⟨a, ha⟩ : ∃ a, xs[j]? = some a := ⟨xs[j]'(by omega), List.getElem?_eq_getElem _⟩
        obtain ⟨b, hb⟩ : ∃ a, xs[j + 1]? = some a := ⟨xs[j + 1], List.getElem?_eq_getElem hie⟩
        obtain ⟨bx, ox, hbx, _, hcx⟩ := HV.out.cells j a ha
        cases hbx
        have ca := hcx j a ha
        have cb := hcx (j + 1) b hb
        have hz : (0 : Int) ≤ (j : Int) + 1 := by omega
        have hlt3 : decide ((j : Int) + 1 < (xs.length : Int)) = true := decide_eq_true (by omega)
        by_cases heq : key a = key b
        · have ht : (ord a b == 0) = true := by rw [beq_iff_eq]; exact ord_eq.2 heq
          have hnx := HI.out.more hie ha hb heq
          have HNX := Lib.hid hnx
          clear hnx heq ha hb hcx
          go_wp2_with fail
          go_quiet ((go_at_call 17; first | exact Calls.quiet_of_same (same17 _ _ _)))
          have hj2 : J pre (wr.drewN nq) := HJ.out _ _ _ hj ((Upd.refl [] wr).drewN nq)
          have hk2 := HK.out.low (((Upd.refl [] wr).drewN nq).toF w.heap.size).low (X := []) (by simp) (by simp)
          clear hj HK c1 c2 ca cb HV 
          generalize wr.drewN nq = wr2 at hj2 hk2 ⊢
          go_wp2_with fail
          go_roundw
          case rel => exact ⟨f, j + 1 + 1, pre, rfl, by go_num, HNX.out, hj2, hk2⟩
          case measure => simp [intOf]; omega
        · have ht : (ord a b == 0) = false := by rw [beq_eq_false_iff_ne]; exact fun e => heq (ord_eq.1 e)
          have hnx := HI.out.cut (.inr ⟨a, b, ha, hb, heq⟩)
          have HNX := Lib.hid hnx
          clear hnx heq ha hb hcx
          go_wp2_with fail
          go_quiet ((go_at_call 17; first | exact Calls.quiet_of_same (same17 _ _ _)))
          have hj2 : J pre (wr.drewN nq) := HJ.out _ _ _ hj ((Upd.refl [] wr).drewN nq)
          have hk2 := HK.out.low (((Upd.refl [] wr).drewN nq).toF w.heap.size).low (X := []) (by simp) (by simp)
          clear hj HK c1 c2 HV ca cb
          generalize wr.drewN nq = wr2 at hj2 hk2 ⊢
          have c1 := hk2.r1.cell 0
          simp only [List.getElem?_cons_zero] at c1
          have hvw := hk2.v.slice2 (lo := f) (hi := (j + 1)) (k := c - f) (p := some ⟨bp, op + f, none⟩) (by omega) (by omega) (.inl ⟨hfc, rfl⟩) rfl
          have HVW := Lib.hid hvw
          have HK := Lib.hid hk2
          clear hvw hk2
          rename_i K2 kk2 K1 kk1 K0 kk0
          refine kk0 _ _ (wp_cond_false rfl (wp_skip ?_))
          refine kk1 _ _ ?_
          refine (wpIn_wide (n := n')).1 ?_
          gi_wp2_with (refine ⟨trivial, fun hh => by simp [Fence.wide] at hh, ?_⟩; refine CallsIn.mono (callsIn_wide.2 (clone_any' _ _ _ ((xs.drop f).take (j + 1 - f)) _ HVW.out (by rw [List.length_take, List.length_drop]; omega) (by rw [List.length_take, List.length_drop]; omega))) ?_; rintro e w2 ⟨⟨v, rfl, hov⟩, U2⟩)
          have hj3 : J pre w2 := HJ.out _ _ _ hj2 U2
          have hk3 := HK.out.low (U2.toF w.heap.size).low (X := []) (by simp) (by simp)
          have hadm : RAdm xs w.heap.size pre (v, (xs.drop f).take (j + 1 - f)) w2 := ⟨HNX.out.1, hov.mono HK.out.le⟩
          obtain ⟨fn, tmps, assign, body, hy, hR⟩ := HY.out pre (v, (xs.drop f).take (j + 1 - f)) w2 hj3 hadm
          dsimp only at hy hR
          have HR := Lib.hid hR
          have HK3 := Lib.hid hk3
          clear hR hadm hj2 HK hov U2 c1 hk3 HVW
          rw [hy]
          refine ⟨fun hh => by simp [Fence.wide] at hh, HR.out.mono ?_⟩
          rintro e W3 (⟨rfl, hj4, hl4⟩ | ⟨rfl, hx4⟩)
          · have hk4 := HK3.out.low hl4 HQ.out (fun h0 b off e => HPX.out h0 b off none e)
            clear hy hj3 hl4
            gi_wp2
            go_wp2
            go_roundw
            case rel => exact ⟨(j + 1), (j + 1) + 1, _, rfl, by go_num, HNX.out.2 _ , hj4, hk4⟩
            case measure => simp [intOf]; omega
          · clear hy hj3 HK3
            gi_wp2
            refine bodyPost_ret (results_none rfl _ _ _) rfl ?_
            exact ⟨⟨_, rfl⟩, .inr ⟨_, trivial, hx4⟩⟩
      · have hie2 : i = xs.length := by omega
        have hnx := HI.out.cut (.inl hie2)
        have HNX := Lib.hid hnx
        clear hnx hie2
        go_wp2_with fail
        go_quiet (fail)
        have hj2 : J pre (wr.drewN nq) := HJ.out _ _ _ hj ((Upd.refl [] wr).drewN nq)
        have hk2 := HK.out.low (((Upd.refl [] wr).drewN nq).toF w.heap.size).low (X := []) (by simp) (by simp)
        clear hj HK c1 c2 HV
        generalize wr.drewN nq = wr2 at hj2 hk2 ⊢
        have c1 := hk2.r1.cell 0
        simp only [List.getElem?_cons_zero] at c1
        have hvw := hk2.v.slice2 (lo := f) (hi := i) (k := c - f) (p := some ⟨bp, op + f, none⟩) (by omega) (by omega) (.inl ⟨hfc, rfl⟩) rfl
        have HVW := Lib.hid hvw
        have HK := Lib.hid hk2
        clear hvw hk2
        rename_i K2 kk2 K1 kk1 K0 kk0
        refine kk0 _ _ (wp_cond_false rfl (wp_skip ?_))
        refine kk1 _ _ ?_
        refine (wpIn_wide (n := n')).1 ?_
        gi_wp2_with (refine ⟨trivial, fun hh => by simp [Fence.wide] at hh, ?_⟩; refine CallsIn.mono (callsIn_wide.2 (clone_any' _ _ _ ((xs.drop f).take (i - f)) _ HVW.out (by rw [List.length_take, List.length_drop]; omega) (by rw [List.length_take, List.length_drop]; omega))) ?_; rintro e w2 ⟨⟨v, rfl, hov⟩, U2⟩)
        have hj3 : J pre w2 := HJ.out _ _ _ hj2 U2
        have hk3 := HK.out.low (U2.toF w.heap.size).low (X := []) (by simp) (by simp)
        have hadm : RAdm xs w.heap.size pre (v, (xs.drop f).take (i - f)) w2 := ⟨HNX.out.1, hov.mono HK.out.le⟩
        obtain ⟨fn, tmps, assign, body, hy, hR⟩ := HY.out pre (v, (xs.drop f).take (i - f)) w2 hj3 hadm
        dsimp only at hy hR
        have HR := Lib.hid hR
        have HK3 := Lib.hid hk3
        clear hR hadm hj2 HK hov U2 c1 hk3 HVW
        rw [hy]
        refine ⟨fun hh => by simp [Fence.wide] at hh, HR.out.mono ?_⟩
        rintro e W3 (⟨rfl, hj4, hl4⟩ | ⟨rfl, hx4⟩)
        · have hk4 := HK3.out.low hl4 HQ.out (fun h0 b off e => HPX.out h0 b off none e)
          clear hy hj3 hl4
          gi_wp2
          go_wp2
          go_roundw
          case rel => exact ⟨i, i + 1, _, rfl, by go_num, HNX.out.2 _ , hj4, hk4⟩
          case measure => simp [intOf]; omega
        · clear hy hj3 HK3
          gi_wp2
          refine bodyPost_ret (results_none rfl _ _ _) rfl ?_
          exact ⟨⟨_, rfl⟩, .inr ⟨_, trivial, hx4⟩⟩
    · go_wp2_with fail
      go_end0
      exact ⟨⟨_, rfl⟩, .inl ⟨pre, HI.out.done (by omega), hj⟩⟩

structure RKeep25 (B : Nat) (W : World) (q1 q2 q3 : Nat) (p : Option Addr) (c : Nat) (xs : List Int) : Prop where
  r1 : IsRow W q1 22 [.slice p xs.length c]
  r2 : IsRow W q2 34 [.func (.func 25) #[] #[.pointer (some ⟨q3, 0, none⟩)]]
  r3 : IsRow W q3 25 [.func (.func 11) #[] #[]]
  v : View W p c xs
  b1 : q1 < B
  b2 : q2 < B
  b3 : q3 < B
  lp : ∀ (i : Nat) (x : Int), xs[i]? = some x → ∃ b off, p = some ⟨b, off, none⟩ ∧ b < B
  le : B ≤ W.heap.size

theorem RKeep25.low {B : Nat} {W W' : World} {q1 q2 q3 : Nat} {p : Option Addr} {c : Nat} {xs : List Int} (h : RKeep25 B W q1 q2 q3 p c xs) {X : List Nat} (l : Low X B W W') (hq : ∀ k, k ∈ [q1, q2, q3] → k ∉ X)
    (hpx : 0 < xs.length → ∀ b off, p = some ⟨b, off, none⟩ → b ∉ X) : RKeep25 B W' q1 q2 q3 p c xs := by
  refine ⟨l.row h.r1 h.b1 (hq _ (by simp)), l.row h.r2 h.b2 (hq _ (by simp)), l.row h.r3 h.b3 (hq _ (by simp)), ⟨h.v.le, h.v.max, h.v.nil, fun i x hi => ?_⟩, h.b1, h.b2, h.b3, h.lp, Nat.le_trans h.le l.size⟩
  obtain ⟨b, off, e1, h2, h3⟩ := h.v.cells i x hi
  obtain ⟨b', off', e2, hb⟩ := h.lp i x hi
  rw [e1] at e2
  cases e2
  exact ⟨b, off, e1, Nat.lt_of_lt_of_le h2 l.size, fun j y hj => (World.cell?_of_block (a := ⟨b, off + j, none⟩) (l.low b h2 hb (hpx (by have := (List.getElem?_eq_some_iff.1 hi).1; omega) b off e1))).trans (h3 j y hj)⟩

set_option maxRecDepth 100000 in
set_option maxHeartbeats 1000000 in
theorem runs_iter25 (n' : Nat) (w : World) (q1 q2 q3 : Nat) (p : Option Addr) (c : Nat) (xs : List Int) (X : List Nat) (hv : View w p c xs) (hn : xs.length ≤ 1048576) (h1 : IsRow w q1 22 [.slice p xs.length c])
    (h2 : IsRow w q2 34 [.func (.func 25) #[] #[.pointer (some ⟨q3, 0, none⟩)]]) (h3 : IsRow w q3 25 [.func (.func 11) #[] #[]]) (hq : ∀ k, k ∈ [q1, q2, q3] → k ∉ X) (hpx : 0 < xs.length → ∀ b off k, p = some ⟨b, off, k⟩ → b ∉ X) :
    Iter n' Try.prog 24 #[.pointer (some ⟨q1, 0, none⟩), .pointer (some ⟨q2, 0, none⟩)] (fun y : Value × List Int => #[y.1]) [] X (RAdm xs w.heap.size) (fun ys => tot ys = xs.length) (fun _ => True) w := by
  intro l B J Jx W hW hB hJ hJx hY h0
  have hk0 : RKeep25 w.heap.size W q1 q2 q3 p c xs := ⟨h1.upd hW (by simp), h2.upd hW (by simp), h3.upd hW (by simp), hv.upd hW, h1.lt, h2.lt, h3.lt, (fun i x hi => by obtain ⟨b, off, e1, e2, _⟩ := hv.cells i x hi; exact ⟨b, off, e1, e2⟩), hW.size⟩
  have HY := Lib.hid hY
  have HJ := Lib.hid hJ
  have HQ := Lib.hid hq
  have HPX := Lib.hid hpx
  have HK0 := Lib.hid hk0
  clear hY hJ hJx h1 h2 h3 hv hW hB hq hpx hk0
  refine callsIn_wide.2 ?_
  show Calls Try.prog 24 #[.func (.yield l) #[] #[], .pointer (some ⟨q1, 0, none⟩), .pointer (some ⟨q2, 0, none⟩)] W _
  go_enter Try.func24, Try.ntmps24
  go_wp2_with fail
  go_loopw [4, 5] (fun u4 u5 wr => ∃ (f i : Nat) (pre : List (Value × List Int)), u4 = .int .i64 f ∧ u5 = .int .i64 i ∧ RInv xs f i pre ∧ J pre wr ∧ RKeep25 w.heap.size wr q1 q2 q3 p c xs) (fun _ u5 _ => xs.length + 1 - (intOf u5).toNat)
  case atStart => exact ⟨0, 1, [], rfl, rfl, RInv.start xs, h0, HK0.out⟩
  case round =>
    clear h0 HK0
    obtain ⟨f, i, pre, rfl, rfl, hinv, hj, hk⟩ := hrel
    have hfi := hinv.lt
    have hile := hinv.le
    have HI := Lib.hid hinv
    clear hinv
    have c1 := hk.r1.cell 0
    have c2 := hk.r2.cell 0
    have c3 := hk.r3.cell 0
    simp only [List.getElem?_cons_zero] at c1 c2 c3
    by_cases hil : i ≤ xs.length
    · have hxl : 0 < xs.length := by omega
      obtain ⟨x0, hx0⟩ : ∃ a, xs[0]? = some a := ⟨xs[0], List.getElem?_eq_getElem hxl⟩
      obtain ⟨bp, op, rfl, hbp⟩ := hk.lp 0 x0 hx0
      have hvc := hk.v
      have hcle := hvc.le
      have hfc : ¬ c = f := by omega
      have a1 : (f : Int) ≤ (i : Int) := by omega
      have a2 : (i : Int) ≤ (c : Int) := by omega
      have a3 : (0 : Int) ≤ (i : Int) := by omega
      clear hx0
      have HV := Lib.hid hvc
      have HK := Lib.hid hk
      clear hvc hk
      by_cases hie : i < xs.length
      · obtain ⟨j, rfl⟩ : ∃ j, i = j + 1 := ⟨i - 1, by omega⟩
        obtain ⟨a, ha⟩ : ∃ a, xs[j]? = some a := ⟨xs[j]'(by omega), List.getElem?_eq_getElem _⟩
        obtain ⟨b, hb⟩ : ∃ a, xs[j + 1]? = some a := ⟨xs[j + 1], List.getElem?_eq_getElem hie⟩
        obtain ⟨bx, ox, hbx, _, hcx⟩ := HV.out.cells j a ha
        cases hbx
        have ca := hcx j a ha
        have cb := hcx (j + 1) b hb
        have hz : (0 : Int) ≤ (j : Int) + 1 := by omega
        have hlt3 : decide ((j : Int) + 1 < (xs.length : Int)) = true := decide_eq_true (by omega)
        by_cases heq : key a = key b
        · have ht : (ord a b == 0) = true := by rw [beq_iff_eq]; exact ord_eq.2 heq
          have hnx := HI.out.more hie ha hb heq
          have HNX := Lib.hid hnx
          clear hnx heq ha hb hcx
          go_wp2_with fail
          go_quiet ((go_at_call 25; first | exact Calls.quiet_of_same (same25 _ _ _ _ c3)))
          have hj2 : J pre (wr.drewN nq) := HJ.out _ _ _ hj ((Upd.refl [] wr).drewN nq)
          have hk2 := HK.out.low (((Upd.refl [] wr).drewN nq).toF w.heap.size).low (X := []) (by simp) (by simp)
          clear hj HK c1 c2 ca cb HV  c3
          generalize wr.drewN nq = wr2 at hj2 hk2 ⊢
          go_wp2_with fail
          go_roundw
          case rel => exact ⟨f, j + 1 + 1, pre, rfl, by go_num, HNX.out, hj2, hk2⟩
          case measure => simp [intOf]; omega
        · have ht : (ord a b == 0) = false := by rw [beq_eq_false_iff_ne]; exact fun e => heq (ord_eq.1 e)
          have hnx := HI.out.cut (.inr ⟨a, b, ha, hb, heq⟩)
          have HNX := Lib.hid hnx
          clear hnx heq ha hb hcx
          go_wp2_with fail
          go_quiet ((go_at_call 25; first | exact Calls.quiet_of_same (same25 _ _ _ _ c3)))
          have hj2 : J pre (wr.drewN nq) := HJ.out _ _ _ hj ((Upd.refl [] wr).drewN nq)
          have hk2 := HK.out.low (((Upd.refl [] wr).drewN nq).toF w.heap.size).low (X := []) (by simp) (by simp)
          clear hj HK c1 c2 HV c3 ca cb
          generalize wr.drewN nq = wr2 at hj2 hk2 ⊢
          have c1 := hk2.r1.cell 0
          simp only [List.getElem?_cons_zero] at c1
          have hvw := hk2.v.slice2 (lo := f) (hi := (j + 1)) (k := c - f) (p := some ⟨bp, op + f, none⟩) (by omega) (by omega) (.inl ⟨hfc, rfl⟩) rfl
          have HVW := Lib.hid hvw
          have HK := Lib.hid hk2
          clear hvw hk2
          rename_i K2 kk2 K1 kk1 K0 kk0
          refine kk0 _ _ (wp_cond_false rfl (wp_skip ?_))
          refine kk1 _ _ ?_
          refine (wpIn_wide (n := n')).1 ?_
          gi_wp2_with (refine ⟨trivial, fun hh => by simp [Fence.wide] at hh, ?_⟩; refine CallsIn.mono (callsIn_wide.2 (clone_any' _ _ _ ((xs.drop f).take (j + 1 - f)) _ HVW.out (by rw [List.length_take, List.length_drop]; omega) (by rw [List.length_take, List.length_drop]; omega))) ?_; rintro e w2 ⟨⟨v, rfl, hov⟩, U2⟩)
          have hj3 : J pre w2 := HJ.out _ _ _ hj2 U2
          have hk3 := HK.out.low (U2.toF w.heap.size).low (X := []) (by simp) (by simp)
          have hadm : RAdm xs w.heap.size pre (v, (xs.drop f).take (j + 1 - f)) w2 := ⟨HNX.out.1, hov.mono HK.out.le⟩
          obtain ⟨fn, tmps, assign, body, hy, hR⟩ := HY.out pre (v, (xs.drop f).take (j + 1 - f)) w2 hj3 hadm
          dsimp only at hy hR
          have HR := Lib.hid hR
          have HK3 := Lib.hid hk3
          clear hR hadm hj2 HK hov U2 c1 hk3 HVW
          rw [hy]
          refine ⟨fun hh => by simp [Fence.wide] at hh, HR.out.mono ?_⟩
          rintro e W3 (⟨rfl, hj4, hl4⟩ | ⟨rfl, hx4⟩)
          · have hk4 := HK3.out.low hl4 HQ.out (fun h0 b off e => HPX.out h0 b off none e)
            clear hy hj3 hl4
            gi_wp2
            go_wp2
            go_roundw
            case rel => exact ⟨(j + 1), (j + 1) + 1, _, rfl, by go_num, HNX.out.2 _ , hj4, hk4⟩
            case measure => simp [intOf]; omega
          · clear hy hj3 HK3
            gi_wp2
            refine bodyPost_ret (results_none rfl _ _ _) rfl ?_
            exact ⟨⟨_, rfl⟩, .inr ⟨_, trivial, hx4⟩⟩
      · have hie2 : i = xs.length := by omega
        have hnx := HI.out.cut (.inl hie2)
        have HNX := Lib.hid hnx
        clear hnx hie2
        go_wp2_with fail
        go_quiet (fail)
        have hj2 : J pre (wr.drewN nq) := HJ.out _ _ _ hj ((Upd.refl [] wr).drewN nq)
        have hk2 := HK.out.low (((Upd.refl [] wr).drewN nq).toF w.heap.size).low (X := []) (by simp) (by simp)
        clear hj HK c1 c2 HV c3
        generalize wr.drewN nq = wr2 at hj2 hk2 ⊢
        have c1 := hk2.r1.cell 0
        simp only [List.getElem?_cons_zero] at c1
        have hvw := hk2.v.slice2 (lo := f) (hi := i) (k := c - f) (p := some ⟨bp, op + f, none⟩) (by omega) (by omega) (.inl ⟨hfc, rfl⟩) rfl
        have HVW := Lib.hid hvw
        have HK := Lib.hid hk2
        clear hvw hk2
        rename_i K2 kk2 K1 kk1 K0 kk0
        refine kk0 _ _ (wp_cond_false rfl (wp_skip ?_))
        refine kk1 _ _ ?_
        refine (wpIn_wide (n := n')).1 ?_
        gi_wp2_with (refine ⟨trivial, fun hh => by simp [Fence.wide] at hh, ?_⟩; refine CallsIn.mono (callsIn_wide.2 (clone_any' _ _ _ ((xs.drop f).take (i - f)) _ HVW.out (by rw [List.length_take, List.length_drop]; omega) (by rw [List.length_take, List.length_drop]; omega))) ?_; rintro e w2 ⟨⟨v, rfl, hov⟩, U2⟩)
        have hj3 : J pre w2 := HJ.out _ _ _ hj2 U2
        have hk3 := HK.out.low (U2.toF w.heap.size).low (X := []) (by simp) (by simp)
        have hadm : RAdm xs w.heap.size pre (v, (xs.drop f).take (i - f)) w2 := ⟨HNX.out.1, hov.mono HK.out.le⟩
        obtain ⟨fn, tmps, assign, body, hy, hR⟩ := HY.out pre (v, (xs.drop f).take (i - f)) w2 hj3 hadm
        dsimp only at hy hR
        have HR := Lib.hid hR
        have HK3 := Lib.hid hk3
        clear hR hadm hj2 HK hov U2 c1 hk3 HVW
        rw [hy]
        refine ⟨fun hh => by simp [Fence.wide] at hh, HR.out.mono ?_⟩
        rintro e W3 (⟨rfl, hj4, hl4⟩ | ⟨rfl, hx4⟩)
        · have hk4 := HK3.out.low hl4 HQ.out (fun h0 b off e => HPX.out h0 b off none e)
          clear hy hj3 hl4
          gi_wp2
          go_wp2
          go_roundw
          case rel => exact ⟨i, i + 1, _, rfl, by go_num, HNX.out.2 _ , hj4, hk4⟩
          case measure => simp [intOf]; omega
        · clear hy hj3 HK3
          gi_wp2
          refine bodyPost_ret (results_none rfl _ _ _) rfl ?_
          exact ⟨⟨_, rfl⟩, .inr ⟨_, trivial, hx4⟩⟩
    · go_wp2_with fail
      go_end0
      exact ⟨⟨_, rfl⟩, .inl ⟨pre, HI.out.done (by omega), hj⟩⟩

end Go.Proofs.Ytkfolfkgjpcmiaa
