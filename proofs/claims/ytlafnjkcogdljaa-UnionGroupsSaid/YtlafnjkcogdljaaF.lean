/- The document's lists: New, Join; count, within. -/
import Derived.Test.YtlafnjkcogdljaaE
namespace Go.Proofs.Ytlafnjkcogdljaa
open Go.RowKit

theorem Try.info3 : (Try.prog.info? 3).map (fun i => (i.zero, i.size, i.bytes)) = some (some (.int .i64 0), 1, 8) := by kernel_rfl

def nums (x : List Nat) : List Value := x.map fun (k : Nat) => Value.int .i64 (k : Int)
theorem nums_len (x : List Nat) : (nums x).length = x.length := by simp [nums]
theorem nums_snoc (x : List Nat) (k : Nat) : nums (x ++ [k]) = nums x ++ [.int .i64 (k : Int)] := by simp [nums]
theorem nums_at {x : List Nat} {i k : Nat} (h : x[i]? = some k) : (nums x)[i]? = some (.int .i64 (k : Int)) := by simp [nums, h]

/-- A list of the call's own. -/
def Own (w : World) (B : Nat) (v : Value) (x : List Nat) : Prop := w.ownsRow B 3 1 v x.length (nums x)

theorem Own.nil (w : World) (B : Nat) : Own w B (.slice none 0 0) [] := World.ownsRow_nil _ _ _ _

/-- How such a list is read. -/
theorem Own.read {w : World} {B : Nat} {v : Value} {x : List Nat} (h : Own w B v x) :
    ∃ p cap, v = .slice p x.length cap ∧ ∀ (i k : Nat), x[i]? = some k → ∃ g, p = some ⟨g, 0, none⟩ ∧ B ≤ g ∧ g < w.heap.size ∧ (∀ (j u : Nat), x[j]? = some u → w.cell? ⟨g, j, none⟩ = some (.int .i64 (u : Int))) := by
  have h0 := h
  rcases h.2 with ⟨rfl, hn⟩ | ⟨g, cap, cur, rfl, hb, hg, _⟩
  · refine ⟨none, 0, by rw [hn], fun i k hk => ?_⟩
    have : i < x.length := (List.getElem?_eq_some_iff.1 hk).1
    omega
  · refine ⟨some ⟨g, 0, none⟩, cap, rfl, fun i k hk => ⟨g, rfl, hb, (Array.getElem?_eq_some_iff.1 hg).1, fun j u hu => ?_⟩⟩
    have hj : j < x.length := (List.getElem?_eq_some_iff.1 hu).1
    have := World.ownsRow.cellAt h0 j (by omega)
    rw [this, nums_at hu]

theorem Own.at' {w : World} {B : Nat} {p : Option Addr} {cap : Nat} {x : List Nat} (h : Own w B (.slice p x.length cap) x) {i k : Nat} (hk : x[i]? = some k) :
    ∃ g, p = some ⟨g, 0, none⟩ ∧ B ≤ g ∧ g < w.heap.size ∧ (∀ (j u : Nat), x[j]? = some u → w.cell? ⟨g, j, none⟩ = some (.int .i64 (u : Int))) := by
  obtain ⟨p', cap', he, hr⟩ := h.read
  simp only [Value.slice.injEq] at he
  obtain ⟨rfl, _, rfl⟩ := he
  exact hr i k hk

theorem Own.kept {w w' : World} {B : Nat} {v : Value} {x : List Nat} (h : Own w B v x) {S : List Nat} (u : Upd S w w') (hS : ∀ k, k ∈ S → k < B) : Own w' B v x := by
  refine ⟨h.1, ?_⟩
  rcases h.2 with h2 | ⟨g, cap, cur, rfl, hb, hg, r⟩
  · exact .inl h2
  · refine .inr ⟨g, cap, cur, rfl, hb, ?_, r⟩
    rw [u.block g (Array.getElem?_eq_some_iff.1 hg).1 (fun e => by have := hS g e; omega)]
    exact hg

theorem Own.mono {w : World} {B B' : Nat} {v : Value} {x : List Nat} (h : Own w B v x) (hB : B' ≤ B) : Own w B' v x := by
  refine ⟨h.1, ?_⟩
  rcases h.2 with h2 | ⟨g, cap, cur, rfl, hb, hg, r⟩
  · exact .inl h2
  · exact .inr ⟨g, cap, cur, rfl, Nat.le_trans hB hb, hg, r⟩

theorem one_at (w : World) (v : Value) (t : TypeId) : ∀ (j : Nat) (u : Value), [v][j]? = some u → (w.alloc (.cells #[v] t)).cell? ((⟨w.heap.size, 0, none⟩ : Addr).add j) = some u := by
  intro j u hj
  match j, hj with
  | 0, hj => simp at hj; subst hj; simp [Addr.add]

theorem Own.snoc {w : World} {B : Nat} {v : Value} {x : List Nat} {k : Nat} (h : w.ownsRow B 3 1 v (x.length + 1) (nums x ++ [.int .i64 (k : Int)])) : Own w B v (x ++ [k]) := by
  unfold Own
  rw [nums_snoc, List.length_append]
  exact h

theorem Own.own_upd {w w1 w' : World} {B : Nat} {v : Value} {x : List Nat} (h : Own w1 B v x) (u : Upd [] w w1) (hB : w.heap.size ≤ B) (hg : w1.grownBy w' v.ownBlock) : Upd [] w w' :=
  u.grown hg fun k hk => by
    have := World.ownsRow.lt h k hk
    exact .inr (by omega)

theorem own_at {w : World} {B : Nat} {v : Value} {x : List Nat} {k : Nat} (h : Own w B v x) (hl : x.length = k) : w.ownsRow B 3 1 v k (nums x) := by
  subst hl; exact h

/-- Behind an append of one number. -/
theorem own_after {w wr w1 : World} {B : Nat} {v v' : Value} {x : List Nat} {k u : Nat} {o : Obj} (hown : Own wr B v x) (hl : x.length = k) (h : w1.ownsRow B 3 1 v' (k + 1) (nums x ++ [.int .i64 (u : Int)]))
    (hg : (wr.alloc o).grownBy w1 v.ownBlock) (hu : Upd [] w wr) (hB : w.heap.size ≤ B) : Own w1 B v' (x ++ [u]) ∧ Upd [] w w1 := by
  subst hl
  exact ⟨Own.snoc h, Own.own_upd (hown.kept (S := []) ((Upd.refl [] wr).alloc o) (by simp)) (hu.alloc _) hB hg⟩

set_option maxHeartbeats 400000 in
theorem rnew_any (n B : Nat) (hn : n ≤ 1048576) (w : World) (hB : B = w.heap.size) :
    Calls Try.prog 9 #[.int .i64 n] w fun e w' => (∃ v, e = .returned v ∧ Own w' B v (List.range n)) ∧ Upd [] w w' := by
  obtain ⟨i0, hi, hz0, hz1, hz2⟩ := info_parts Try.info3
  have HB := Lib.hid hB
  clear hB
  go_enter Try.func9, Try.ntmps9
  go_wp2_with fail
  go_loopw [3, 4] (fun v i wr => ∃ k : Nat, k ≤ n ∧ i = .int .i64 k ∧ Own wr B v (List.range k) ∧ Upd [] w wr) (fun _ i _ => n - (intOf i).toNat)
  case atStart => exact ⟨0, Nat.zero_le _, rfl, Own.nil _ _, Upd.refl _ _⟩
  case round =>
    obtain ⟨k, hk, rfl, hown, hu⟩ := hrel
    have hsz := hu.size
    have hb := HB.out
    have hown1 : wr.ownsRow B 3 1 u3 k (nums (List.range k)) := by have h := hown; unfold Own at h; rw [List.length_range] at h; exact h
    have HBB : Hid (B = w.heap.size) := HB
    clear hb
    by_cases hlt : k < n
    · go_wp2_with (at_builtin; refine wpList_append_own _ rfl _ _ 26 rfl B 3 i0 (.int .i64 0) 1 8 Try.underlying26 hi hz0 hz1 hz2 rfl (by decide) _ _ _ rfl (hown1.alloc _) ⟨wr.heap.size, 0, none⟩ 1 1 [.int .i64 k] rfl rfl (one_at _ _ _) (by simp [Value.oneCell']) (by unfold maxLen; omega) (by omega) ?c5 ?_)
      case c5 => have := HB.out; simp; omega
      intro v' w1 hown' hgrow _
      have hn1 : Own w1 B v' (List.range (k + 1)) := by
        rw [List.range_succ]
        exact Own.snoc (by rw [List.length_range]; exact hown')
      have hu1 : Upd [] w w1 := Own.own_upd (hown.kept (S := []) ((Upd.refl [] wr).alloc (.cells #[.int .i64 k] 3)) (by simp)) (hu.alloc _) (by have := HB.out; omega) hgrow
      clear hown' hgrow hown hown1
      go_wp2
      go_roundw
      case rel => exact ⟨k + 1, by omega, by go_num, hn1, hu1⟩
      case measure => simp [intOf]; omega
    · have hkn : n = k := by omega
      subst hkn
      go_wp2
      go_ret
      exact ⟨⟨_, rfl, hown⟩, hu⟩

theorem within_any (a n : Int) (w : World) :
    Calls Try.prog 11 #[.int .i64 a, .int .i64 n] w fun e w' => e = .returned (.bool (decide (0 ≤ a ∧ a < n))) ∧ w = w' := by
  by_cases h : 0 ≤ a
  all_goals
    go_enter Try.func11, Try.ntmps11
    go_wp2
    go_ret
    exact ⟨ret_bool (by simp; try omega), rfl⟩

theorem within_in (a : Int) (n : Nat) (w : World) :
    Calls Try.prog 11 #[.int .i64 a, .int .i64 n] w fun e w' => e = .returned (.bool (inB n a)) ∧ w = w' :=
  within_any a n w

theorem take_next {x : List Nat} {k u : Nat} (h : x[k]? = some u) : x.take (k + 1) = x.take k ++ [u] := by
  rw [List.take_add_one, h]; rfl

set_option maxHeartbeats 400000 in
theorem rjoin_nat (B : Nat) (v : Value) (x : List Nat) (a c : Nat) (w : World) (h : Own w B v x) (ha : a < x.length) (hc : c < x.length) (hn : x.length ≤ 1048576) :
    Calls Try.prog 13 #[v, .int .i64 a, .int .i64 c] w fun e w' => (∃ v', e = .returned v' ∧ Own w' w.heap.size v' (joinX x a c)) ∧ Upd [] w w' := by
  obtain ⟨i0, hi, hz0, hz1, hz2⟩ := info_parts Try.info3
  obtain ⟨p, cap, rfl, hread⟩ := h.read
  obtain ⟨xa, hxa⟩ : ∃ u, x[a]? = some u := ⟨x[a], List.getElem?_eq_getElem ha⟩
  obtain ⟨xc, hxc⟩ : ∃ u, x[c]? = some u := ⟨x[c], List.getElem?_eq_getElem hc⟩
  obtain ⟨g, rfl, hBg, hgw, hcells⟩ := hread a xa hxa
  have hca := hcells a xa hxa
  have hcc := hcells c xc hxc
  obtain ⟨n, hnx⟩ : ∃ n, n = x.length := ⟨_, rfl⟩
  rw [← hnx] at ha hc hn ⊢
  obtain ⟨lo, hlo⟩ : ∃ u, u = min xa xc := ⟨_, rfl⟩
  obtain ⟨hi', hhi⟩ : ∃ u, u = max xa xc := ⟨_, rfl⟩
  have HJ : Hid (joinX x a c = x.map fun v => if v = hi' then lo else v) := by
    show joinX x a c = _
    unfold joinX
    rw [hxa, hxc, hlo, hhi]
    rfl
  have HN := Lib.hid hnx
  clear hnx hread h
  have key : ∀ (k u : Nat), x[k]? = some u → (x.map fun v => if v = hi' then lo else v).take (k + 1) = (x.map fun v => if v = hi' then lo else v).take k ++ [if u = hi' then lo else u] := by
    intro k u hu
    exact take_next (by rw [List.getElem?_map, hu]; rfl)
  have HK := Lib.hid key
  have HC := Lib.hid hcells
  clear key hcells
  have HXA := Lib.hid hxa
  have HXC := Lib.hid hxc
  clear hxa hxc
  have hcase : (xc < xa ∧ decide (xc < xa) = true) ∨ (xa ≤ xc ∧ decide (xc < xa) = false) := by
    rcases Nat.lt_or_ge xc xa with h | h
    · exact .inl ⟨h, decide_eq_true h⟩
    · exact .inr ⟨h, decide_eq_false (by omega)⟩
  rcases hcase with ⟨hlt, hd⟩ | ⟨hlt, hd⟩
  all_goals
    have HLO : Hid (lo = min xa xc) := Lib.hid hlo
    have HHI : Hid (hi' = max xa xc) := Lib.hid hhi
    clear hlo hhi
    go_enter Try.func13, Try.ntmps13
    go_wp2_with fail
  · have e1 : lo = xc := by have := HLO.out; omega
    have e2 : hi' = xa := by have := HHI.out; omega
    subst e1 e2
    go_loopw [7, 10] (fun v i wr => ∃ k : Nat, k ≤ n ∧ i = .int .i64 k ∧ Own wr w.heap.size v ((x.map fun v => if v = hi' then lo else v).take k) ∧ Upd [] w wr) (fun _ i _ => n - (intOf i).toNat)
    case atStart => exact ⟨0, Nat.zero_le _, rfl, Own.nil _ _, Upd.refl _ _⟩
    case round =>
      obtain ⟨k, hk, rfl, hown, hu⟩ := hrel
      have hsz := hu.size
      by_cases hlt' : k < n
      · obtain ⟨u, hxu⟩ : ∃ u, x[k]? = some u := ⟨x[k]'(by have := HN.out; omega), List.getElem?_eq_getElem _⟩
        have hcu := (hu.cell (p := ⟨g, k, none⟩) hgw (by simp)).trans (HC.out k u hxu)
        have hk1 := HK.out k u hxu
        have hl : (List.take k (x.map fun v => if v = hi' then lo else v)).length = k := by rw [List.length_take, List.length_map]; have := HN.out; omega
        have hown1 := own_at hown hl
        have HK1 := Lib.hid hk1
        have HL := Lib.hid hl
        clear hk1 hl
        by_cases hue : u = hi'
        · have htest : ((u : Int) == (hi' : Int)) = true := by simp [hue]
          have HU := Lib.hid hue
          clear hue
          go_wp2_with (at_builtin; refine wpList_append_own _ rfl _ _ 26 rfl w.heap.size 3 i0 (.int .i64 0) 1 8 Try.underlying26 hi hz0 hz1 hz2 rfl (by decide) _ _ _ rfl (hown1.alloc _) ⟨wr.heap.size, 0, none⟩ 1 1 [.int .i64 lo] rfl rfl (one_at _ _ _) (by simp [Value.oneCell']) (by unfold maxLen; omega) (by omega) ?c5 ?_)
          case c5 => simp; omega
          intro v' w1 hown' hgrow _
          obtain ⟨hn1, hu1⟩ := own_after hown HL.out hown' hgrow hu (Nat.le_refl _)
          have HK2 := HK1.out
          rw [if_pos HU.out] at HK2
          rw [← HK2] at hn1
          clear hown' hgrow hown hown1 HK2
          go_wp2
          go_roundw
          case rel => exact ⟨k + 1, by omega, by go_num, hn1, hu1⟩
          case measure => simp [intOf]; omega
        · have htest : ((u : Int) == (hi' : Int)) = false := by simp; omega
          have HU := Lib.hid hue
          clear hue
          go_wp2_with (at_builtin; refine wpList_append_own _ rfl _ _ 26 rfl w.heap.size 3 i0 (.int .i64 0) 1 8 Try.underlying26 hi hz0 hz1 hz2 rfl (by decide) _ _ _ rfl (hown1.alloc _) ⟨wr.heap.size, 0, none⟩ 1 1 [.int .i64 u] rfl rfl (one_at _ _ _) (by simp [Value.oneCell']) (by unfold maxLen; omega) (by omega) ?c6 ?_)
          case c6 => simp; omega
          intro v' w1 hown' hgrow _
          obtain ⟨hn1, hu1⟩ := own_after hown HL.out hown' hgrow hu (Nat.le_refl _)
          have HK2 := HK1.out
          rw [if_neg HU.out] at HK2
          rw [← HK2] at hn1
          clear hown' hgrow hown hown1 HK2
          go_wp2
          go_roundw
          case rel => exact ⟨k + 1, by omega, by go_num, hn1, hu1⟩
          case measure => simp [intOf]; omega
      · have hkn : n = k := by omega
        have e : (x.map fun v => if v = hi' then lo else v).take k = joinX x a c := by rw [HJ.out]; exact List.take_of_length_le (by rw [List.length_map]; have := HN.out; omega)
        rw [e] at hown
        subst hkn
        go_wp2
        go_ret
        exact ⟨⟨_, rfl, hown⟩, hu⟩
  · have e1 : lo = xa := by have := HLO.out; omega
    have e2 : hi' = xc := by have := HHI.out; omega
    subst e1 e2
    go_loopw [7, 10] (fun v i wr => ∃ k : Nat, k ≤ n ∧ i = .int .i64 k ∧ Own wr w.heap.size v ((x.map fun v => if v = hi' then lo else v).take k) ∧ Upd [] w wr) (fun _ i _ => n - (intOf i).toNat)
    case atStart => exact ⟨0, Nat.zero_le _, rfl, Own.nil _ _, Upd.refl _ _⟩
    case round =>
      obtain ⟨k, hk, rfl, hown, hu⟩ := hrel
      have hsz := hu.size
      by_cases hlt' : k < n
      · obtain ⟨u, hxu⟩ : ∃ u, x[k]? = some u := ⟨x[k]'(by have := HN.out; omega), List.getElem?_eq_getElem _⟩
        have hcu := (hu.cell (p := ⟨g, k, none⟩) hgw (by simp)).trans (HC.out k u hxu)
        have hk1 := HK.out k u hxu
        have hl : (List.take k (x.map fun v => if v = hi' then lo else v)).length = k := by rw [List.length_take, List.length_map]; have := HN.out; omega
        have hown1 := own_at hown hl
        have HK1 := Lib.hid hk1
        have HL := Lib.hid hl
        clear hk1 hl
        by_cases hue : u = hi'
        · have htest : ((u : Int) == (hi' : Int)) = true := by simp [hue]
          have HU := Lib.hid hue
          clear hue
          go_wp2_with (at_builtin; refine wpList_append_own _ rfl _ _ 26 rfl w.heap.size 3 i0 (.int .i64 0) 1 8 Try.underlying26 hi hz0 hz1 hz2 rfl (by decide) _ _ _ rfl (hown1.alloc _) ⟨wr.heap.size, 0, none⟩ 1 1 [.int .i64 lo] rfl rfl (one_at _ _ _) (by simp [Value.oneCell']) (by unfold maxLen; omega) (by omega) ?c5 ?_)
          case c5 => simp; omega
          intro v' w1 hown' hgrow _
          obtain ⟨hn1, hu1⟩ := own_after hown HL.out hown' hgrow hu (Nat.le_refl _)
          have HK2 := HK1.out
          rw [if_pos HU.out] at HK2
          rw [← HK2] at hn1
          clear hown' hgrow hown hown1 HK2
          go_wp2
          go_roundw
          case rel => exact ⟨k + 1, by omega, by go_num, hn1, hu1⟩
          case measure => simp [intOf]; omega
        · have htest : ((u : Int) == (hi' : Int)) = false := by simp; omega
          have HU := Lib.hid hue
          clear hue
          go_wp2_with (at_builtin; refine wpList_append_own _ rfl _ _ 26 rfl w.heap.size 3 i0 (.int .i64 0) 1 8 Try.underlying26 hi hz0 hz1 hz2 rfl (by decide) _ _ _ rfl (hown1.alloc _) ⟨wr.heap.size, 0, none⟩ 1 1 [.int .i64 u] rfl rfl (one_at _ _ _) (by simp [Value.oneCell']) (by unfold maxLen; omega) (by omega) ?c6 ?_)
          case c6 => simp; omega
          intro v' w1 hown' hgrow _
          obtain ⟨hn1, hu1⟩ := own_after hown HL.out hown' hgrow hu (Nat.le_refl _)
          have HK2 := HK1.out
          rw [if_neg HU.out] at HK2
          rw [← HK2] at hn1
          clear hown' hgrow hown hown1 HK2
          go_wp2
          go_roundw
          case rel => exact ⟨k + 1, by omega, by go_num, hn1, hu1⟩
          case measure => simp [intOf]; omega
      · have hkn : n = k := by omega
        have e : (x.map fun v => if v = hi' then lo else v).take k = joinX x a c := by rw [HJ.out]; exact List.take_of_length_le (by rw [List.length_map]; have := HN.out; omega)
        rw [e] at hown
        subst hkn
        go_wp2
        go_ret
        exact ⟨⟨_, rfl, hown⟩, hu⟩

theorem rjoin_any (B : Nat) (v : Value) (x : List Nat) (a c : Int) (w : World) (h : Own w B v x) (ha : inB x.length a = true) (hc : inB x.length c = true) (hn : x.length ≤ 1048576) :
    Calls Try.prog 13 #[v, .int .i64 a, .int .i64 c] w fun e w' => (∃ v', e = .returned v' ∧ Own w' w.heap.size v' (joinX x a.toNat c.toNat)) ∧ Upd [] w w' := by
  obtain ⟨k, rfl, hk⟩ := inB_out ha
  obtain ⟨l, rfl, hl⟩ := inB_out hc
  rw [Int.toNat_natCast, Int.toNat_natCast]
  exact rjoin_nat B v x k l w h hk hl hn

set_option maxHeartbeats 400000 in
theorem count_list (B : Nat) (v : Value) (x : List Nat) (w : World) (h : Own w B v x) (hn : x.length ≤ 1048576) :
    Calls Try.prog 15 #[v] w fun e w' => e = .returned (.int .i64 (cntX x)) ∧ w = w' := by
  obtain ⟨p, cap, rfl, hread⟩ := h.read
  obtain ⟨n, hnx⟩ : ∃ n, n = x.length := ⟨_, rfl⟩
  have hX : cntX x = cntTo x n := by rw [hnx]; rfl
  rw [← hnx] at hn ⊢
  have HX := Lib.hid hX
  have HN := Lib.hid hnx
  have HR := Lib.hid hread
  clear hX hnx hread h
  go_enter Try.func15, Try.ntmps15
  go_wp2_with fail
  go_loop [3, 8] (fun c i => ∃ k : Nat, k ≤ n ∧ i = .int .i64 k ∧ c = .int .i64 (cntTo x k)) (fun _ i => n - (intOf i).toNat)
  case atStart => exact ⟨0, Nat.zero_le _, rfl, rfl⟩
  case round =>
    obtain ⟨k, hk, rfl, rfl⟩ := hrel
    have hle := cntTo_le x k
    by_cases hlt' : k < n
    · obtain ⟨u, hxu⟩ : ∃ u, x[k]? = some u := ⟨x[k]'(by have := HN.out; omega), List.getElem?_eq_getElem _⟩
      obtain ⟨g, rfl, _, _, hcells⟩ := HR.out k u hxu
      have hcu := hcells k u hxu
      have HS : Hid (cntTo x (k + 1) = cntTo x k + if u = k then 1 else 0) := by
        show cntTo x (k + 1) = _
        simp only [cntTo, hxu, Option.some.injEq]
      clear hcells hxu HR
      by_cases hue : u = k
      · have htest : ((u : Int) == (k : Int)) = true := by simp [hue]
        have HU := Lib.hid hue
        clear hue
        go_wp2
        go_round
        case rel => exact ⟨k + 1, by omega, by go_num, by rw [HS.out, if_pos HU.out]; go_num⟩
        case measure => simp [intOf]; omega
      · have htest : ((u : Int) == (k : Int)) = false := by simp; omega
        have HU := Lib.hid hue
        clear hue
        go_wp2
        go_round
        case rel => exact ⟨k + 1, by omega, by go_num, by rw [HS.out, if_neg HU.out]; go_num⟩
        case measure => simp [intOf]; omega
    · have hkn : n = k := by omega
      subst hkn
      go_wp2
      go_ret
      exact ⟨ret_int (by rw [HX.out]), rfl⟩

theorem eqB_join (x : List Nat) (a c : Nat) (ha : a < x.length) (hc : c < x.length) : eqB (joinX x a c) a c = true := by
  unfold eqB joinX
  rw [List.getElem?_map, List.getElem?_map, List.getElem?_eq_getElem ha, List.getElem?_eq_getElem hc]
  simp only [Option.getD_some, Option.map_some]
  apply decide_eq_true
  split <;> split <;> omega

end Go.Proofs.Ytlafnjkcogdljaa
