/- HeapOwn: the walk. -/
import Derived.Test.YtgeaboahccfdcaaH
namespace Go.Proofs.Ytgeaboahccfdcaa
open Go.RowKit

theorem View.front {w : World} {p : Option Addr} {cap : Nat} {xs ys : List Int} (h : View w p cap (xs ++ ys)) : View w p cap xs := by
  have hle := h.le
  rw [List.length_append] at hle
  refine ⟨by omega, h.max, h.nil, fun i x hi => ?_⟩
  have hil := (List.getElem?_eq_some_iff.1 hi).1
  obtain ⟨b, off, h1, h2, h3⟩ := h.cells i x (by rw [List.getElem?_append_left hil]; exact hi)
  refine ⟨b, off, h1, h2, fun j y hj => h3 j y ?_⟩
  have hjl := (List.getElem?_eq_some_iff.1 hj).1
  rw [List.getElem?_append_left hjl]
  exact hj

theorem own_guard (p q : Option Addr) (n c m d : Nat) (w : World) (hg : 100 < n ∨ 100 < m) : Calls Try.prog 4 #[.slice p n c, .slice q m d] w fun e w' => e = .returned (.bool true) ∧ Upd [] w w' := by
  by_cases hn : 100 < n
  · clear hg
    go_enter Try.func4, Try.ntmps4
    go_wp2_with (go_at_call 7; refine (awake_any _).mono ?_; rintro e w' ⟨rfl, U⟩)
    go_ret
    exact ⟨rfl, U⟩
  · have hm : 100 < m := by omega
    clear hg
    go_enter Try.func4, Try.ntmps4
    go_wp2_with (go_at_call 7; refine (awake_any _).mono ?_; rintro e w' ⟨rfl, U⟩)
    go_ret
    exact ⟨rfl, U⟩

set_option maxRecDepth 100000 in
set_option maxHeartbeats 1000000 in
theorem own_walk (v u : Value) (xs zs : List Int) (w : World) (hx : Lst w v xs) (hy : Lst w u zs) (h1 : xs.length ≤ 100) (h2 : zs.length ≤ 100) :
    Calls Try.prog 4 #[v, u] w fun e w' => e = .returned (.bool true) ∧ Upd [] w w' := by
  obtain ⟨i0, hi, hz0, hz1, hz2⟩ := info_parts Try.info3
  obtain ⟨p, c, rfl, hv⟩ := hx
  obtain ⟨q, d, rfl, hu⟩ := hy
  have HV := Lib.hid hv
  have HU := Lib.hid hu
  have l0 := hv.lst
  clear hv hu
  go_enter Try.func4, Try.ntmps4
  go_wp2_with (at_make; refine wpList_make_own _ rfl _ _ 22 rfl w.heap.size 3 i0 (.int .i64 0) 1 Try.underlying22 hi hz0 hz1 _ _ _ (xs.length + 9) rfl rfl (by omega) (by rw [hz2]; omega) (by unfold maxLen; omega) (Nat.le_refl _) ?_)
  intro w1 hown hgr
  have U1 : Upd [] w w1 := (Upd.refl [] w).grown hgr (fun k hk => by cases hk)
  have HO : Own w1 w.heap.size (.slice (some ⟨w.heap.size, 0, none⟩) 0 (xs.length + 9)) [] := hown
  have l1 := l0.upd U1
  clear hown hgr hi hz0 hz1 hz2 l0
  go_wp2_with (at_builtin; refine wpList_append_lst rfl _ _ rfl w.heap.size _ _ [] xs rfl rfl HO l1 U1.size (by simp; omega) ?_)
  intro v2 w2 ho2 hg2
  have U2 := own_grown HO hg2 U1 (Nat.le_refl _)
  have ho3 : Own (w2.alloc (.cells (ints [7, 7, 7]).toArray 3)) w.heap.size v2 ([] ++ xs) := ho2.kept ((Upd.refl [] w2).alloc _) (by simp)
  have l3 := lst_new w2 [7, 7, 7] 3 rfl (by decide)
  have U3 : Upd [] w (w2.alloc (.cells (ints [7, 7, 7]).toArray 3)) := U2.alloc _
  clear HO l1 hg2 U1 U2 ho2
  go_wp2_with (at_builtin; refine wpList_append_lst rfl _ _ rfl w.heap.size v2 _ ([] ++ xs) [7, 7, 7] rfl rfl ho3 l3 U3.size (by simp; omega) ?_)
  intro v4 w4 ho4 hg4
  have U4 := own_grown ho3 hg4 U3 (Nat.le_refl _)
  have ho5 : Own w4 w.heap.size v4 (xs ++ [7, 7, 7]) := ho4
  obtain ⟨g, cap, rfl, hgb⟩ := ho5.first (by simp)
  have hgl := World.ownsRow.lt ho5 g rfl
  obtain ⟨_, hvw⟩ := ho5.view'
  have hcl := hvw.le
  simp only [List.length_append, List.length_cons, List.length_nil, Nat.zero_add] at hcl ho5 ⊢
  have lr := hvw.front.lst
  have a1 : (xs.length : Int) ≤ (cap : Int) := by omega
  have a2 : (0 : Int) ≤ (xs.length : Int) := by omega
  have HO5 := Lib.hid ho5
  have HGL := Lib.hid (And.intro hgl.2 hgb)
  clear ho3 l3 U3 ho4 hg4 hvw ho5 hgl hgb
  go_wp2_with fail
  refine (new9 _ xs w4 lr (by omega)).mono ?_
  rintro e w5 ⟨h, v5, ys5, rfl, H5, hh5, hp5, U5, hb5, hg5⟩
  have hS := bk_high hb5 hg5
  have HS := Lib.hid hS
  have hl5 := hp5.length_eq
  have HR5 := Lib.hid (HO5.out.kept U5 (by simp))
  have HH := Lib.hid (And.intro H5 (And.intro hh5 hl5))
  have HU45 := Lib.hid (And.intro U4 U5)
  clear lr H5 hh5 hp5 U5 hb5 hg5 hS hl5 U4
  go_wp2_with fail
  go_loopw [39] (fun u39 wr => ∃ (j : Nat) (v : Value) (ys : List Int), j ≤ zs.length ∧ u39 = .int .i64 j ∧ HeapAt wr false h v ys ∧ IsHeap false ys ∧ ys.length = xs.length ∧ (∀ k, k ∈ bk h v → w4.heap.size ≤ k) ∧ Upd [] w4 wr) (fun u39 _ => zs.length - (intOf u39).toNat)
  case atStart => exact ⟨0, _, _, Nat.zero_le _, rfl, HH.out.1, HH.out.2.1, HH.out.2.2, HS.out, HU45.out.2⟩
  case round =>
    clear HS HH
    obtain ⟨j, v6, ys, hj, rfl, H6, hh6, hl6, hb6, U6⟩ := hrel
    have HB6 := Lib.hid hb6
    have H6U := Lib.hid U6
    have HHH := Lib.hid hh6
    have HL6 := Lib.hid hl6
    clear hb6 hh6 hl6
    by_cases hjl : j < zs.length
    · obtain ⟨a, ha⟩ : ∃ a, zs[j]? = some a := ⟨zs[j], List.getElem?_eq_getElem hjl⟩
      obtain ⟨bx, ox, rfl, _, hcx⟩ := (HU.out.upd (HU45.out.1.trans U6)).cells j a ha
      have ca := hcx j a ha
      clear hcx ha U6
      go_wp2_with fail
      refine (push_any false h v6 ys a wr H6 HHH.out (by have := HL6.out; omega)).mono ?_
      rintro e w7 ⟨⟨r, rfl⟩, ⟨v7, ys7, H7, hh7, hp7, hm7⟩, U7⟩
      have hb7 := bk_high_moved HB6.out hm7 H6U.out.size
      have hl7 : ys7.length = xs.length + 1 := by rw [hp7.length_eq, List.length_cons, HL6.out]
      have U8 : Upd [] w4 w7 := ((H6U.out.mono (S' := bk h v6) (by simp)).trans U7).shrink fun k hk hlt => by
        have := HB6.out k hk
        omega
      have HB7 := Lib.hid hb7
      have HL7 := Lib.hid hl7
      have HU8 := Lib.hid U8
      clear H6 ca U7 hp7 hm7 hb7 hl7 U8
      go_wp2_with fail
      refine (pop_any false h v7 ys7 w7 H7 hh7).mono ?_
      rintro e w8 ⟨rfl, ⟨v8, ys8, H8, hh8, hp8, _, hm8⟩, U9⟩
      have hl8 : ys8.length = xs.length := by
        have h9 := (hp8 (by have := HL7.out; omega)).length_eq
        rw [List.length_cons, HL7.out] at h9
        omega
      have hbk : bk h v8 = bk h v7 := by unfold bk; rw [hm8]
      have U10 : Upd [] w4 w8 := ((HU8.out.mono (S' := bk h v7) (by simp)).trans U9).shrink fun k hk hlt => by
        have := HB7.out k hk
        omega
      have HF := Lib.hid (And.intro H8 (And.intro hh8 (And.intro hl8 (And.intro (show ∀ k, k ∈ bk h v8 → w4.heap.size ≤ k by rw [hbk]; exact HB7.out) U10))))
      clear H7 hh7 H8 hh8 hp8 hm8 U9 hl8 hbk U10
      generalize decide (0 < ys7.length) = okb
      generalize nth ys7 0 = y0
      go_wp2_with fail
      go_roundw
      case rel => exact ⟨j + 1, v8, ys8, hjl, by go_num, HF.out.1, HF.out.2.1, HF.out.2.2.1, HF.out.2.2.2.1, HF.out.2.2.2.2⟩
      case measure => simp [intOf]; omega
    · have hck : heapB false ys = true := heapB_iff.2 HHH.out
      have HCK := Lib.hid hck
      have HR6 := Lib.hid (HO5.out.kept U6 (by simp))
      have HW6 := Lib.hid (HU45.out.1.trans U6)
      have hgn : g ∉ bk h v6 := fun e => by have := HB6.out g e; have := HGL.out.1; omega
      have HGN := Lib.hid hgn
      have HH6 := Lib.hid H6
      obtain ⟨W6, hW6⟩ : ∃ W, W = wr := ⟨_, rfl⟩
      subst hW6
      clear hck H6 U6 HR5 HU45 HO5 hgn HB6 H6U HHH
      go_wp2_with fail
      go_loopw [51] (fun u51 wr => ∃ (j : Nat) (ws : List Int), j ≤ xs.length ∧ u51 = .int .i64 j ∧ ws.length = xs.length + 3 ∧ (∀ i, j ≤ i → ws[i]? = (xs ++ [7, 7, 7])[i]?) ∧ Own wr w.heap.size (.slice (some ⟨g, 0, none⟩) (xs.length + 3) cap) ws ∧ HeapAt wr false h v6 ys ∧ Upd [] w wr) (fun u51 _ => xs.length - (intOf u51).toNat)
      case atStart => exact ⟨0, xs ++ [7, 7, 7], Nat.zero_le _, rfl, by simp, fun i _ => rfl, HR6.out, HH6.out, HW6.out⟩
      case round =>
        clear HR6 HH6 HW6
        obtain ⟨j, ws, hj, rfl, hwl, hws, ho7, H7, U7⟩ := hrel
        have HWL := Lib.hid hwl
        have HWS := Lib.hid hws
        have HH7 := Lib.hid H7
        clear hwl hws H7
        by_cases hjl : j < xs.length
        · obtain ⟨a, ha⟩ : ∃ a, xs[j]? = some a := ⟨xs[j], List.getElem?_eq_getElem hjl⟩
          obtain ⟨bx, ox, rfl, _, hcx⟩ := (HV.out.upd U7).cells j a ha
          have ca := hcx j a ha
          have hwj : ws[j]? = some a := by rw [HWS.out j (Nat.le_refl _), List.getElem?_append_left hjl]; exact ha
          have hc := World.ownsRow.cellAt (own_at ho7 HWL.out) j (by omega)
          rw [ints_at hwj] at hc
          have fr := ho7.free j
          have hst := ho7.store (wrap64 (a + 1)) (show j < ws.length by have := HWL.out; omega)
          have H8 := HH7.out.upd ((Upd.refl [g] wr).setCell (p := ⟨g, j, none⟩) (by simp) (.int .i64 (wrap64 (a + 1)))) (fun z hz e => by rw [List.mem_singleton] at e; subst e; exact HGN.out hz)
          have U8 := U7.setCell_new (p := ⟨g, j, none⟩) HGL.out.2 (.int .i64 (wrap64 (a + 1)))
          have hne : (a != a) = false := by simp
          have HF := Lib.hid (And.intro hst (And.intro H8 U8))
          clear hcx ha hwj hst H8 U8 U7 ho7
          go_wp2_with fail
          go_roundw
          case rel =>
            refine ⟨j + 1, _, hjl, by go_num, by rw [List.length_set]; exact HWL.out, fun i hi => ?_, HF.out.1, HF.out.2.1, HF.out.2.2⟩
            rw [List.getElem?_set_ne (by omega)]
            exact HWS.out i (by omega)
          case measure => simp [intOf]; omega
        · have hje : j = xs.length := by omega
          subst hje
          have hc0 := World.ownsRow.cellAt (own_at ho7 HWL.out) xs.length (by omega)
          have hc1 := World.ownsRow.cellAt (own_at ho7 HWL.out) (xs.length + 1) (by omega)
          have hc2 := World.ownsRow.cellAt (own_at ho7 HWL.out) (xs.length + 2) (by omega)
          rw [ints_at (k := 7) (by rw [HWS.out _ (by omega), List.getElem?_append_right (by omega)]; simp)] at hc0
          rw [ints_at (k := 7) (by rw [HWS.out _ (by omega), List.getElem?_append_right (by omega)]; simp)] at hc1
          rw [ints_at (k := 7) (by rw [HWS.out _ (by omega), List.getElem?_append_right (by omega)]; simp)] at hc2
          have HC := Lib.hid (And.intro hc0 (And.intro hc1 hc2))
          have b1 : (xs.length : Int) ≤ (xs.length : Int) + 3 := by omega
          have b2 : (xs.length : Int) + 3 ≤ (cap : Int) := by omega
          have b3 : ¬ cap = xs.length := by omega
          have b4 : xs.length + 3 - xs.length = 3 := by omega
          obtain ⟨W7, hW7⟩ : ∃ W, W = wr := ⟨_, rfl⟩
          subst hW7
          clear hc0 hc1 hc2 ho7 HWS hj hjl
          go_wp2_with fail
          go_loopw [74] (fun u74 wr => ∃ j : Nat, j ≤ 3 ∧ u74 = .int .i64 j ∧ wr = W7) (fun u74 _ => 3 - (intOf u74).toNat)
          case atStart => exact ⟨0, by omega, rfl, rfl⟩
          case round =>
            obtain ⟨j, hj, rfl, rfl⟩ := hrel
            by_cases hj3 : j < 3
            · have hc : wr.cell? ⟨g, xs.length + j, none⟩ = some (.int .i64 7) := by
                have h9 := HC.out
                match j, hj3 with
                | 0, _ => exact h9.1
                | 1, _ => exact h9.2.1
                | 2, _ => exact h9.2.2
              go_wp2_with fail
              go_roundw
              case rel => exact ⟨j + 1, hj3, by go_num, trivial⟩
              case measure => simp [intOf]; omega
            · have hj4 : j = 3 := by omega
              subst hj4
              go_wp2_with fail
              refine (check_any false h v6 ys _ HH7.out).mono ?_
              rintro e w9 ⟨rfl, U9⟩
              rw [HCK.out]
              have H9 := HH7.out.upd U9 (by simp)
              have U10 := U7.trans U9
              have hlr : Ending.returned (.int .i64 (ys.length : Int)) = .returned (.int .i64 (xs.length : Int)) := by rw [HL6.out]
              have HLR := Lib.hid hlr
              clear U9 U7 hlr
              go_wp2_with fail
              refine (len_any false h v6 ys w9 H9).mono ?_
              rintro e w10 ⟨rfl, rfl⟩
              rw [HLR.out]
              have hnz : ((xs.length : Int) == (xs.length : Int)) = true := by simp
              clear H9
              go_wp2_with fail
              refine (awake_any _).mono ?_
              rintro e w11 ⟨rfl, U11⟩
              have U12 := U10.trans U11
              clear U10 U11
              go_wp2_with fail
              go_ret
              exact ⟨rfl, U12⟩

theorem own_all (v u : Value) (xs zs : List Int) (w : World) (hx : Lst w v xs) (hy : Lst w u zs) :
    Calls Try.prog 4 #[v, u] w fun e w' => e = .returned (.bool true) ∧ Upd [] w w' := by
  by_cases hg : 100 < xs.length ∨ 100 < zs.length
  · obtain ⟨p, c, rfl, _⟩ := hx
    obtain ⟨q, d, rfl, _⟩ := hy
    exact own_guard p q _ c _ d w hg
  · exact own_walk v u xs zs w hx hy (by omega) (by omega)

end Go.Proofs.Ytgeaboahccfdcaa
