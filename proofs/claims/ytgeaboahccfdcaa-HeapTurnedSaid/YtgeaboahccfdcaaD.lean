/- Delete of the last one; First, Len, Check. -/
import Derived.Test.YtgeaboahccfdcaaC
import Derived.Lib.SliceRun
namespace Go.Proofs.Ytgeaboahccfdcaa
open Go.RowKit

theorem run_append_zero (ty : TypeId) (ad ad' : Addr) (n cap c' : Nat) (w : World) (hn : n ≤ cap) :
    (Builtin.append_ #[22, 22] ty #[.slice (some ad) n cap, .slice (some ad') 0 c']).run Try.prog w = .ok (.slice (some ad) n cap) w := by
  obtain ⟨i0, hi, hz0, hz1, hz2⟩ := info_parts Try.info3
  simp [Builtin.append_, run_underlying Try.underlying22, sizeOf, typeInfo, hi, Builtin.lenOf, Builtin.firstCells, hn, storeCells, loadCells, loadCellsFrom]

theorem step_append_zero {ops : Array Oper} {o : Oper} {a : Act} {K : Act → World → Prop} {Q : Exit → Act → World → Prop} {E : Prop} {w : World} (hgd : o.guard = none) (s x : Operand)
    (ho : o.op = .call { callee := .builtin .append, args := #[s, x], argTypes := #[22, 22] })
    (ad ad' : Addr) (n cap c' : Nat) (hs : a.eval s = .slice (some ad) n cap) (hx : a.eval x = .slice (some ad') 0 c') (hn : n ≤ cap)
    (h : K (a.put o.dst (.slice (some ad) n cap)) w) :
    if Region.wanted o (yielded ops a.tmps) = true then Oper.wp Try.prog o a w K Q else E := by
  have hw : Region.wanted o (yielded ops a.tmps) = true := by simp [Region.wanted, hgd]
  rw [if_pos hw]
  unfold Oper.wp execOp
  simp only [ho, resolve, invoke, builtin, Sem.run_bind, Sem.run_pure, Result.andThen_ok, List.map_toArray, List.map_cons, List.map_nil, hs, hx, run_append_zero o.type ad ad' n cap c' w hn]
  exact h

theorem run_zero3 (w : World) : (zeroValue 3).run Try.prog w = .ok (.int .i64 0) w := by
  obtain ⟨i0, hi, hz0, hz1, hz2⟩ := info_parts Try.info3
  simp [zeroValue, typeInfo, hi, hz0]

theorem wpList_clear_one {ops : Array Oper} {rest : List Oper} {o : Oper} {a : Act} {Q : Exit → Act → World → Prop} {w : World} (hgd : o.guard = none) (s : Operand)
    (ho : o.op = .call { callee := .builtin .clear, args := #[s], argTypes := #[22] })
    (b off c : Nat) (u : Value) (hs : a.eval s = .slice (some ⟨b, off, none⟩) 1 c) (hc : w.cell? ⟨b, off, none⟩ = some u) (hf : w.frozen? ⟨b, off, none⟩ = false)
    (h : wpList Try.prog ops Q rest (a.put o.dst (.tuple #[])) (w.setCell ⟨b, off, none⟩ (.int .i64 0))) : wpList Try.prog ops Q (o :: rest) a w := by
  refine wpList_plain hgd fun _ hK => ?_
  have hr := Lib.run_clear_slice (P := Try.prog) w 22 3 o.type (.int .i64 0) Try.underlying22 run_zero3 rfl rfl b off 1 c (by omega)
    (fun j hj => by have : j = 0 := by omega
                    subst this; rw [Nat.add_zero, hc]; rfl) (fun j hj => by have : j = 0 := by omega
                                                                            subst this; rw [Nat.add_zero]; exact hf)
  have e : w.setCells b off (List.replicate 1 (.int .i64 0)) = w.setCell ⟨b, off, none⟩ (.int .i64 0) := rfl
  rw [e] at hr
  unfold Oper.wp execOp
  simp only [ho, resolve, invoke, builtin, Sem.run_bind, Sem.run_pure, Result.andThen_ok, List.map_toArray, List.map_cons, List.map_nil, hs, hr]
  exact hK _ _ h

/-- The own list but for its last one. -/
theorem Own.less {w : World} {B g m cap : Nat} {xs : List Int} (h : Own w B (.slice (some ⟨g, 0, none⟩) (m + 1) cap) xs) (hl : xs.length = m + 1) : Own w B (.slice (some ⟨g, 0, none⟩) m cap) (xs.take m) := by
  obtain ⟨h1, h2⟩ := h
  have hlm : (xs.take m).length = m := by rw [List.length_take]; omega
  rcases h2 with ⟨h2, _⟩ | ⟨g', cap', cur, h2, hb, hg, hc, hm, hs, ht⟩
  · cases h2
  · simp only [Value.slice.injEq, Option.some.injEq, Addr.mk.injEq] at h2
    obtain ⟨⟨rfl, _, _⟩, hn, rfl⟩ := h2
    refine ⟨by rw [ints_len, Nat.mul_one], .inr ⟨g, cap, cur, by rw [hlm], hb, hg, by rw [hlm]; omega, hm, hs, ?_⟩⟩
    have : ints (xs.take m) = (ints xs).take m := by simp [ints, List.map_take]
    rw [hlm, this, ← ht, List.take_take, Nat.mul_one]
    congr 1
    omega

theorem Own.past {w : World} {B g m cap : Nat} {xs : List Int} (h : Own w B (.slice (some ⟨g, 0, none⟩) m cap) xs) (u : Value) : Own (w.setCell ⟨g, xs.length, none⟩ u) B (.slice (some ⟨g, 0, none⟩) m cap) xs := by
  obtain ⟨h1, h2⟩ := h
  rcases h2 with ⟨h2, _⟩ | ⟨g', cap', cur, h2, hb, hg, hc, hm, hs, ht⟩
  · cases h2
  · simp only [Value.slice.injEq, Option.some.injEq, Addr.mk.injEq] at h2
    obtain ⟨⟨rfl, _, _⟩, hn, rfl⟩ := h2
    refine ⟨h1, .inr ⟨g, cap, cur.setIfInBounds xs.length u, by rw [hn], hb, ?_, hc, hm, by simpa using hs, ?_⟩⟩
    · simp [World.setCell, Array.getElem?_modify, hg]
    · rw [Array.toList_setIfInBounds, List.take_set_of_le (by omega), ht]

set_option maxRecDepth 100000 in
set_option maxHeartbeats 1000000 in
theorem delete_last (g m cap : Nat) (xs : List Int) (a b : Int) (w : World) (h : Own w 0 (.slice (some ⟨g, 0, none⟩) (m + 1) cap) xs) (hl : xs.length = m + 1) (hm : m ≤ 1000000) (ha : a = m) (hb : b = (m : Int) + 1) :
    Calls Try.prog 27 #[.slice (some ⟨g, 0, none⟩) (m + 1) cap, .int .i64 a, .int .i64 b] w fun e w' => e = .returned (.slice (some ⟨g, 0, none⟩) m cap) ∧ Own w' 0 (.slice (some ⟨g, 0, none⟩) m cap) (xs.take m) ∧ Upd [g] w w' := by
  subst ha hb
  obtain ⟨g', cap', he, hcap, h7, hcell, hfz⟩ := h.spot (by omega)
  simp only [Value.slice.injEq, Option.some.injEq, Addr.mk.injEq] at he
  obtain ⟨⟨rfl, h8, h9⟩, h10, rfl⟩ := he
  clear h7 h8 h9 h10
  have c1 := hcell m _ (nth_get (by omega))
  have f1 := hfz m
  have hmc : m + 1 ≤ cap := by omega
  have hlm : (xs.take m).length = m := by rw [List.length_take]; omega
  have ho2 := (h.less hl).past (.int .i64 0)
  rw [hlm] at ho2
  have HO := Lib.hid ho2
  generalize nth xs m = z at c1
  clear hcell hfz hcap h ho2 hlm hl
  have a1 : (m : Int) ≤ (m : Int) + 1 := by omega
  have a2 : (m : Int) + 1 ≤ (cap : Int) := by omega
  have a3 : (0 : Int) ≤ (m : Int) + 1 := by omega
  have a4 : (m : Int) ≤ (cap : Int) := by omega
  have e1 : ((m : Int) + 1).toNat = m + 1 := by omega
  have hcm : ¬ cap = m := by omega
  have hne : ((m : Int) == (m : Int) + 1) = false := by simp only [beq_eq_false_iff_ne, ne_eq]; omega
  by_cases hcm1 : cap = m + 1
  · subst hcm1
    go_enter Try.func27, Try.ntmps27
    go_wp2_with fail
    refine wp_region_noPanic ?_
    refine wp_region_held_drew (S := fun _ => True) (by kernel_rfl) trivial (fun hHeld => ?_)
    refine wpAnyH_take (i := 0) (v := .slice (some ⟨g, 0, none⟩) (m + 1) (m + 1)) rfl (by kernel_rfl) (by kernel_rfl) (by kernel_rfl) (fun _ _ _ h => h) (Or.inl ⟨by rfl, fun w hSw => by (try dsimp only at hSw); go_simp⟩) hHeld ?_
    try simp only [Act.put, List.setIfInBounds_toArray, List.set_cons_zero, List.set_cons_succ]
    refine wpAnyH_take (i := 1) (v := .int .i64 m) rfl (by kernel_rfl) (by kernel_rfl) (by kernel_rfl) (fun _ _ _ h => h) (Or.inl ⟨by rfl, fun w hSw => by (try dsimp only at hSw); go_simp⟩) hHeld ?_
    try simp only [Act.put, List.setIfInBounds_toArray, List.set_cons_zero, List.set_cons_succ]
    refine wpAnyH_take (i := 2) (v := .slice (some ⟨g, 0, none⟩) m (m + 1)) rfl (by kernel_rfl) (by kernel_rfl) (by kernel_rfl) (fun _ _ _ h => h) (Or.inl ⟨by rfl, fun w hSw => by (try dsimp only at hSw); go_simp⟩) hHeld ?_
    try simp only [Act.put, List.setIfInBounds_toArray, List.set_cons_zero, List.set_cons_succ]
    refine wpAnyH_take (i := 3) (v := .slice (some ⟨g, 0, none⟩) (m + 1) (m + 1)) rfl (by kernel_rfl) (by kernel_rfl) (by kernel_rfl) (fun _ _ _ h => h) (Or.inl ⟨by rfl, fun w hSw => by (try dsimp only at hSw); go_simp⟩) hHeld ?_
    try simp only [Act.put, List.setIfInBounds_toArray, List.set_cons_zero, List.set_cons_succ]
    refine wpAnyH_take (i := 4) (v := .int .i64 ((m : Int) + 1)) rfl (by kernel_rfl) (by kernel_rfl) (by kernel_rfl) (fun _ _ _ h => h) (Or.inl ⟨by rfl, fun w hSw => by (try dsimp only at hSw); go_simp⟩) hHeld ?_
    try simp only [Act.put, List.setIfInBounds_toArray, List.set_cons_zero, List.set_cons_succ]
    refine wpAnyH_take (i := 5) (v := .slice (some ⟨g, 0, none⟩) 0 0) rfl (by kernel_rfl) (by kernel_rfl) (by kernel_rfl) (fun _ _ _ h => h) (Or.inl ⟨by rfl, fun w hSw => by (try dsimp only at hSw); go_simp⟩) hHeld ?_
    try simp only [Act.put, List.setIfInBounds_toArray, List.set_cons_zero, List.set_cons_succ]
    refine wpAnyH_ready (rs := [6]) (by kernel_rfl) (by simp) ?_
    refine AllReadyH.cons rfl (fun K hK => ?_) AllReadyH.nil
    refine step_append_zero rfl _ _ rfl _ _ _ _ _ (by rfl) (by rfl) (by omega) ?_
    refine hK.out _ _ trivial (fun hHeld => ?_)
    clear hK K
    try simp only [Act.put, List.setIfInBounds_toArray, List.set_cons_zero, List.set_cons_succ]
    refine wpAnyH_take (i := 7) (v := .slice (some ⟨g, 0, none⟩) m (m + 1)) rfl (by kernel_rfl) (by kernel_rfl) (by kernel_rfl) (fun _ _ _ h => h) (Or.inl ⟨by rfl, fun w hSw => by (try dsimp only at hSw); go_simp⟩) hHeld ?_
    try simp only [Act.put, List.setIfInBounds_toArray, List.set_cons_zero, List.set_cons_succ]
    refine wpAnyH_done (by kernel_rfl) ?_ _
    refine NoPanic.normal ?_
    go_wp2_with (refine wpList_clear_one rfl _ rfl g m _ _ (by rfl) c1 f1 ?_)
    go_wp2_with fail
    go_ret
    exact ⟨rfl, HO.out.kept (Upd.refl [] _).drew (by simp), ((Upd.refl [g] w).setCell (p := ⟨g, m, none⟩) (by simp) _).drew⟩
  · skip
    go_enter Try.func27, Try.ntmps27
    go_wp2_with fail
    refine wp_region_noPanic ?_
    refine wp_region_held_drew (S := fun _ => True) (by kernel_rfl) trivial (fun hHeld => ?_)
    refine wpAnyH_take (i := 0) (v := .slice (some ⟨g, 0, none⟩) (m + 1) cap) rfl (by kernel_rfl) (by kernel_rfl) (by kernel_rfl) (fun _ _ _ h => h) (Or.inl ⟨by rfl, fun w hSw => by (try dsimp only at hSw); go_simp⟩) hHeld ?_
    try simp only [Act.put, List.setIfInBounds_toArray, List.set_cons_zero, List.set_cons_succ]
    refine wpAnyH_take (i := 1) (v := .int .i64 m) rfl (by kernel_rfl) (by kernel_rfl) (by kernel_rfl) (fun _ _ _ h => h) (Or.inl ⟨by rfl, fun w hSw => by (try dsimp only at hSw); go_simp⟩) hHeld ?_
    try simp only [Act.put, List.setIfInBounds_toArray, List.set_cons_zero, List.set_cons_succ]
    refine wpAnyH_take (i := 2) (v := .slice (some ⟨g, 0, none⟩) m cap) rfl (by kernel_rfl) (by kernel_rfl) (by kernel_rfl) (fun _ _ _ h => h) (Or.inl ⟨by rfl, fun w hSw => by (try dsimp only at hSw); go_simp⟩) hHeld ?_
    try simp only [Act.put, List.setIfInBounds_toArray, List.set_cons_zero, List.set_cons_succ]
    refine wpAnyH_take (i := 3) (v := .slice (some ⟨g, 0, none⟩) (m + 1) cap) rfl (by kernel_rfl) (by kernel_rfl) (by kernel_rfl) (fun _ _ _ h => h) (Or.inl ⟨by rfl, fun w hSw => by (try dsimp only at hSw); go_simp⟩) hHeld ?_
    try simp only [Act.put, List.setIfInBounds_toArray, List.set_cons_zero, List.set_cons_succ]
    refine wpAnyH_take (i := 4) (v := .int .i64 ((m : Int) + 1)) rfl (by kernel_rfl) (by kernel_rfl) (by kernel_rfl) (fun _ _ _ h => h) (Or.inl ⟨by rfl, fun w hSw => by (try dsimp only at hSw); go_simp⟩) hHeld ?_
    try simp only [Act.put, List.setIfInBounds_toArray, List.set_cons_zero, List.set_cons_succ]
    refine wpAnyH_take (i := 5) (v := .slice (some ⟨g, m + 1, none⟩) 0 (cap - (m + 1))) rfl (by kernel_rfl) (by kernel_rfl) (by kernel_rfl) (fun _ _ _ h => h) (Or.inl ⟨by rfl, fun w hSw => by (try dsimp only at hSw); go_simp⟩) hHeld ?_
    try simp only [Act.put, List.setIfInBounds_toArray, List.set_cons_zero, List.set_cons_succ]
    refine wpAnyH_ready (rs := [6]) (by kernel_rfl) (by simp) ?_
    refine AllReadyH.cons rfl (fun K hK => ?_) AllReadyH.nil
    refine step_append_zero rfl _ _ rfl _ _ _ _ _ (by rfl) (by rfl) (by omega) ?_
    refine hK.out _ _ trivial (fun hHeld => ?_)
    clear hK K
    try simp only [Act.put, List.setIfInBounds_toArray, List.set_cons_zero, List.set_cons_succ]
    refine wpAnyH_take (i := 7) (v := .slice (some ⟨g, 0, none⟩) m cap) rfl (by kernel_rfl) (by kernel_rfl) (by kernel_rfl) (fun _ _ _ h => h) (Or.inl ⟨by rfl, fun w hSw => by (try dsimp only at hSw); go_simp⟩) hHeld ?_
    try simp only [Act.put, List.setIfInBounds_toArray, List.set_cons_zero, List.set_cons_succ]
    refine wpAnyH_done (by kernel_rfl) ?_ _
    refine NoPanic.normal ?_
    go_wp2_with (refine wpList_clear_one rfl _ rfl g m _ _ (by rfl) c1 f1 ?_)
    go_wp2_with fail
    go_ret
    exact ⟨rfl, HO.out.kept (Upd.refl [] _).drew (by simp), ((Upd.refl [g] w).setCell (p := ⟨g, m, none⟩) (by simp) _).drew⟩

theorem first_any (t : Bool) (h : Nat) (v : Value) (xs : List Int) (w : World) (H : HeapAt w t h v xs) :
    Calls Try.prog 14 #[.pointer (some ⟨h, 0, none⟩)] w fun e w' => e = .returned (.tuple #[.int .i64 (nth xs 0), .bool (decide (0 < xs.length))]) ∧ w' = w := by
  have c1 := H.c1
  by_cases h0 : 0 < xs.length
  · obtain ⟨g, cap, rfl, hcap, _, hcell, _⟩ := H.own.spot h0
    have ca := hcell 0 _ (nth_get h0)
    have hz : ((xs.length : Int) == 0) = false := by simp only [beq_eq_false_iff_ne, ne_eq]; omega
    rw [decide_eq_true h0]
    generalize nth xs 0 = a at ca ⊢
    clear hcell H
    go_enter Try.func14, Try.ntmps14
    go_wp2_with fail
    exact bodyPost_ret (v := .tuple #[.int .i64 a, .bool true]) (by simp [results, Try.results14, go_sem]) rfl ⟨rfl, rfl⟩
  · obtain ⟨p, c, rfl, _⟩ := H.own.view
    have hz : ((xs.length : Int) == 0) = true := by rw [beq_iff_eq]; omega
    have hx : xs = [] := List.eq_nil_of_length_eq_zero (by omega)
    rw [decide_eq_false h0, show nth xs 0 = 0 by rw [hx]; rfl]
    clear H hx
    go_enter Try.func14, Try.ntmps14
    go_wp2_with fail
    exact bodyPost_ret (v := .tuple #[.int .i64 0, .bool false]) (by simp [results, Try.results14, go_sem]) rfl ⟨rfl, rfl⟩

theorem len_any (t : Bool) (h : Nat) (v : Value) (xs : List Int) (w : World) (H : HeapAt w t h v xs) :
    Calls Try.prog 13 #[.pointer (some ⟨h, 0, none⟩)] w fun e w' => e = .returned (.int .i64 xs.length) ∧ w' = w := by
  have c1 := H.c1
  obtain ⟨p, c, rfl, _⟩ := H.own.view
  clear H
  go_enter Try.func13, Try.ntmps13
  go_wp2_with fail
  go_ret
  exact ⟨rfl, rfl⟩

set_option maxHeartbeats 1000000 in
theorem check_any (t : Bool) (h : Nat) (v : Value) (xs : List Int) (w : World) (H : HeapAt w t h v xs) :
    Calls Try.prog 11 #[.pointer (some ⟨h, 0, none⟩)] w fun e w' => e = .returned (.bool (heapB t xs)) ∧ Upd [] w w' := by
  have hlen := H.len
  have HH := Lib.hid H
  clear H
  go_enter Try.func11, Try.ntmps11
  go_wp2_with fail
  go_loopw [3] (fun u3 wr => ∃ k : Nat, 1 ≤ k ∧ (k ≤ xs.length ∨ k = 1) ∧ u3 = .int .i64 k ∧ (∀ c, c < k → c < xs.length → 0 < c → kd t (nth xs ((c - 1) / 2)) ≤ kd t (nth xs c)) ∧ Upd [] w wr) (fun u3 _ => xs.length - (intOf u3).toNat)
  case atStart => exact ⟨1, Nat.le_refl _, .inr rfl, rfl, fun c h1 h2 h3 => by omega, Upd.refl _ _⟩
  case round =>
    obtain ⟨k, hk1, hk2, rfl, hup, U0⟩ := hrel
    have H := HH.out.upd U0 (by simp)
    have HU := Lib.hid hup
    have c1 := H.c1
    obtain ⟨p, c, rfl, _⟩ := H.own.view
    clear hup
    by_cases hkl : k < xs.length
    · obtain ⟨j, rfl⟩ : ∃ j, k = j + 1 := ⟨k - 1, by omega⟩
      have e1 : (j : Int).tdiv 2 = ((j / 2 : Nat) : Int) := rfl
      have ep : (j + 1 - 1) / 2 = j / 2 := by rw [Nat.add_sub_cancel]
      generalize hq : j / 2 = q at e1 ep
      have hqj : q ≤ j := by omega
      have hlt : decide ((j : Int) + 1 < (xs.length : Int)) = true := decide_eq_true (by omega)
      have HQ := Lib.hid hq
      have HEP := Lib.hid ep
      clear hq ep hk2
      go_wp2_with fail
      refine (before_at t h _ xs (j + 1) q _ _ wr H hkl (by omega) (by omega) (by omega)).mono ?_
      rintro e w1 ⟨rfl, U1⟩
      have U2 := U0.trans U1
      clear H U0 U1 c1
      cases hb : bef t (nth xs (j + 1)) (nth xs q) with
      | true =>
        have hf : heapB t xs = false := by
          unfold heapB
          refine decide_eq_false fun h => ?_
          have := h (j + 1) hkl (by omega)
          rw [HEP.out] at this
          unfold bef at hb
          have := of_decide_eq_true hb
          omega
        have HF := Lib.hid hf
        clear hf hb
        go_wp2_with fail
        go_ret
        exact ⟨ret_bool HF.out.symm, U2⟩
      | false =>
        unfold bef at hb
        rw [decide_eq_false_iff_not] at hb
        have HB := Lib.hid (Int.not_lt.1 hb)
        clear hb
        go_wp2_with fail
        go_roundw
        case rel =>
          refine ⟨j + 1 + 1, by omega, by omega, by go_num, fun c h1 h2 h3 => ?_, U2⟩
          by_cases e : c = j + 1
          · subst e
            rw [HEP.out]
            exact HB.out
          · exact HU.out c (by omega) h2 h3
        case measure => simp [intOf]; omega
    · have ht : heapB t xs = true := by
        unfold heapB
        exact decide_eq_true fun c h1 h2 => HU.out c (by omega) h1 h2
      have HT := Lib.hid ht
      clear ht
      go_wp2_with fail
      go_ret
      exact ⟨ret_bool HT.out.symm, U0⟩

end Go.Proofs.Ytgeaboahccfdcaa
