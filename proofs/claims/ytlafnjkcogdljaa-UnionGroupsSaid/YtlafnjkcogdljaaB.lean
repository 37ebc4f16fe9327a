/- Join. -/
import Derived.Test.YtlafnjkcogdljaaA
namespace Go.Proofs.Ytlafnjkcogdljaa
open Go.RowKit

theorem join_no (s n : Nat) (p : Option Addr) (a c : Int) (w : World) (hc : w.cell? ⟨s, 0, none⟩ = some (.slice p n n)) (h : inB n a = false ∨ (inB n a = true ∧ inB n c = false)) :
    Calls Try.prog 10 #[.pointer (some ⟨s, 0, none⟩), .int .i64 a, .int .i64 c] w fun e w' => e = .returned (.tuple #[.bool false, .int .i64 11]) ∧ w = w' := by
  rcases h with h1 | ⟨h1, h2⟩
  all_goals
    go_enter Try.func10, Try.ntmps10
    go_wp2_with (go_at_call 23; refine (has_any _ n _ _ _ (by assumption)).mono ?_; rintro e w' ⟨rfl, rfl⟩)
    go_ret2
    exact ⟨rfl, rfl⟩

/-- The sets, as the list of least ones says. -/
def SetsAt (w : World) (s b n : Nat) (x : List Nat) : Prop :=
  ∃ cs up sz ls R, Raw w s b n (cntX x) cs up sz ls R ∧ Good n up sz ls R x

set_option maxHeartbeats 400000 in
theorem join_same (s b n : Nat) (x : List Nat) (a c : Nat) (w : World) (h : SetsAt w s b n x) (ha : a < n) (hc : c < n) (hx : x[a]?.getD 0 = x[c]?.getD 0) :
    Calls Try.prog 10 #[.pointer (some ⟨s, 0, none⟩), .int .i64 a, .int .i64 c] w fun e w' => e = .returned (.tuple #[.bool false, .int .i64 0]) ∧ SetsAt w' s b n x ∧ Upd [b] w w' := by
  obtain ⟨cs, up, sz, ls, R, h, g⟩ := h
  have HR := Lib.hid ((g.same ha hc).2 hx)
  clear hx
  have ia := inB_nat n a ha
  have ic := inB_nat n c hc
  have cl := h.cl
  go_enter Try.func10, Try.ntmps10
  go_wp2_with (go_at_call 23; refine (has_any _ n _ _ _ (by assumption)).mono ?_; rintro e w' ⟨rfl, rfl⟩)
  refine (root_any s b n _ a w cs up sz ls R h ha).mono ?_
  rintro e w1 ⟨rfl, ⟨cs1, up1, h1⟩, u1⟩
  go_wp2_with fail
  refine (root_any s b n _ c w1 cs1 up1 sz ls R h1 hc).mono ?_
  rintro e w2 ⟨rfl, ⟨cs2, up2, h2⟩, u2⟩
  rw [HR.out]
  go_wp2_with fail
  go_ret2
  exact ⟨rfl, ⟨cs2, up2, sz, ls, R, h2, g.halve h2.forest⟩, u1.trans u2⟩



set_option maxHeartbeats 1000000 in
theorem join_diff (s b n : Nat) (x : List Nat) (a c : Nat) (w : World) (h : SetsAt w s b n x) (ha : a < n) (hc : c < n) (hx : x[a]?.getD 0 ≠ x[c]?.getD 0) :
    Calls Try.prog 10 #[.pointer (some ⟨s, 0, none⟩), .int .i64 a, .int .i64 c] w fun e w' => e = .returned (.tuple #[.bool true, .int .i64 0]) ∧ SetsAt w' s b n (joinX x a c) ∧ Upd [s, b] w w' := by
  obtain ⟨cs, up, sz, ls, R, h, g⟩ := h
  have HR : Hid (R a ≠ R c) := (fun e => hx ((g.same ha hc).1 e))
  clear hx
  have ia := inB_nat n a ha
  have ic := inB_nat n c hc
  have cl := h.cl
  have ltA := g.forest.Rlt a ha
  have ltC := g.forest.Rlt c hc
  have rA := g.forest.idem ha
  have rC := g.forest.idem hc
  rcases Nat.lt_or_ge (sz (R a)) (sz (R c)) with hlt | hlt
  · obtain ⟨A, hA⟩ : ∃ A, A = R c := ⟨_, rfl⟩
    obtain ⟨B, hB⟩ : ∃ A, A = R a := ⟨_, rfl⟩
    have ltA0 := ltA
    have ltC0 := ltC
    have rA0 := rA
    have rC0 := rC
    clear ltA ltC rA rC
    have ltA := ltC0
    have ltC := ltA0
    have rA := rC0
    have rC := rA0
    clear ltA0 ltC0 rA0 rC0
    have HR0 := HR.out
    clear HR
    have HR : Hid (R c ≠ R a) := HR0.symm
    clear HR0
    have hlt0 := Nat.le_of_lt hlt
    have hlt1 := hlt
    clear hlt
    have hlt : sz (R a) ≤ sz (R c) := hlt0
    clear hlt0
    rw [← hA] at HR hlt ltA rA hlt1
    rw [← hB] at HR hlt ltC rC hlt1
    have HJ := Lib.hid (joinX_eq' g ha hc)
    have HcX := Lib.hid (cntX_join g ltA ltC rA rC HR.out)
    rw [← hA, ← hB] at HJ
    have HA := Lib.hid hA.symm
    have HB := Lib.hid hB.symm
    clear hA hB
    go_enter Try.func10, Try.ntmps10
    go_wp2_with (go_at_call 23; refine (has_any _ n _ _ _ (by assumption)).mono ?_; rintro e w' ⟨rfl, rfl⟩)
    refine (root_any s b n _ a w cs up sz ls R h ha).mono ?_
    rintro e w1 ⟨rfl, ⟨cs1, up1, h1⟩, u1⟩
    go_wp2_with fail
    refine (root_any s b n _ c w1 cs1 up1 sz ls R h1 hc).mono ?_
    rintro e w2 ⟨rfl, ⟨cs2, up2, h2⟩, u2⟩
    have u3 : Upd [s, b] w w2 := (u1.trans u2).mono (by simp)
    rw [HA.out, HB.out]
    have hAB : ((B : Int) == (A : Int)) = false := by have := HR.out; simp; omega
    have small := h2.small
    have lzA := h2.forest.le A ltA
    have lzC := h2.forest.le B ltC
    have hs2 := h2.hs
    have hb2 := h2.hb
    have ht2 := h2.tree
    have hne := h2.ne
    have HG := (g.halve h2.forest).join ltA ltC rA rC HR.out hlt
    have cl := h2.cl
    have cz1 := h2.cz ltA
    have cz2 := h2.cz ltC
    have cuB := h2.cu ltC
    have fr := h2.fb (B * 3)
    have g0 := g
    clear u1 u2 h h1 h2 g rA rC
    go_wp2
    go_region
    go_wp2_with fail
    have hs3 : IsRow (w2.setCell ⟨b, B * 3, none⟩ (.int .i64 A)).drew s 52 _ := hs2.setCell_other _ hne.symm _
    have hb3 : IsRow (w2.setCell ⟨b, B * 3, none⟩ (.int .i64 A)).drew b 54 _ := hb2.setCell_same _ _
    have ht3 := ht2.set_u ltC A
    have u4 : Upd [s, b] w (w2.setCell ⟨b, B * 3, none⟩ (.int .i64 A)).drew := (u3.setCell (p := ⟨b, B * 3, none⟩) (by simp) _).drew
    clear cl cz1 cz2 cuB fr u3 hs2 hb2 ht2
    generalize (w2.setCell ⟨b, B * 3, none⟩ (.int .i64 A)).drew = w3 at hs3 hb3 u4 ⊢
    as_aux_lemma =>
      have cl := hs3.cell 0
      have cz1 := (hb3.cell (A * 3 + 1)).trans (ht3.z A ltA)
      have cz2 := (hb3.cell (B * 3 + 1)).trans (ht3.z B ltC)
      have fr := hb3.free (A * 3 + 1)
      go_region
      have hsz : ((sz A : Int) + (sz B : Int)) = ((sz A + sz B : Nat) : Int) := by omega
      rw [hsz]
      clear hsz
      have hs4 : IsRow (w3.setCell ⟨b, A * 3 + 1, none⟩ (.int .i64 ((sz A + sz B : Nat) : Int))).drew s 52 _ := hs3.setCell_other _ hne.symm _
      have hb4 : IsRow (w3.setCell ⟨b, A * 3 + 1, none⟩ (.int .i64 ((sz A + sz B : Nat) : Int))).drew b 54 _ := hb3.setCell_same _ _
      have ht4 := ht3.set_z ltA (sz A + sz B)
      have u5 : Upd [s, b] w (w3.setCell ⟨b, A * 3 + 1, none⟩ (.int .i64 ((sz A + sz B : Nat) : Int))).drew := (u4.setCell (p := ⟨b, A * 3 + 1, none⟩) (by simp) _).drew
      clear cl cz1 cz2 fr u4 hs3 hb3 ht3
      generalize (w3.setCell ⟨b, A * 3 + 1, none⟩ (.int .i64 ((sz A + sz B : Nat) : Int))).drew = w4 at hs4 hb4 u5 ⊢
      as_aux_lemma =>
        have cl := hs4.cell 0
        have cz1 := (hb4.cell (A * 3 + 2)).trans (ht4.l A ltA)
        have cz2 := (hb4.cell (B * 3 + 2)).trans (ht4.l B ltC)
        have fr := hb4.free (A * 3 + 2)
        go_wp2_with fail
        go_region
        have hmn : (if ls B < ls A then (ls B : Int) else (ls A : Int)) = ((min (ls A) (ls B) : Nat) : Int) := by split <;> omega
        rw [hmn]
        clear hmn
        have hs5 : IsRow (w4.setCell ⟨b, A * 3 + 2, none⟩ (.int .i64 ((min (ls A) (ls B) : Nat) : Int))).drew s 52 _ := hs4.setCell_other _ hne.symm _
        have hb5 : IsRow (w4.setCell ⟨b, A * 3 + 2, none⟩ (.int .i64 ((min (ls A) (ls B) : Nat) : Int))).drew b 54 _ := hb4.setCell_same _ _
        have ht5 := ht4.set_l ltA (min (ls A) (ls B))
        have u6 : Upd [s, b] w (w4.setCell ⟨b, A * 3 + 2, none⟩ (.int .i64 ((min (ls A) (ls B) : Nat) : Int))).drew := (u5.setCell (p := ⟨b, A * 3 + 2, none⟩) (by simp) _).drew
        clear cl cz1 cz2 fr u5 hs4 hb4 ht4
        generalize (w4.setCell ⟨b, A * 3 + 2, none⟩ (.int .i64 ((min (ls A) (ls B) : Nat) : Int))).drew = w5 at hs5 hb5 u6 ⊢
        as_aux_lemma =>
          have cl := hs5.cell 1
          have fr := hs5.free 1
          have b1 : 1 ≤ cntX x := by have := HcX.out; omega
          have b2 : cntX x ≤ 1048576 := Nat.le_trans (cntTo_le _ _) (by rw [g0.len]; exact small)
          go_wp2_with fail
          go_ret2
          have hs6 := hs5.setCell_same 1 (.int .i64 ((cntX x : Int) - 1))
          have hb6 := hb5.setCell_other ⟨s, 1, none⟩ hne (.int .i64 ((cntX x : Int) - 1))
          refine ⟨rfl, ⟨_, _, _, _, _, ⟨hne, ?_, hb6, ht5, HG.forest, small⟩, by rw [HJ.out]; exact HG⟩, u6.setCell (p := ⟨s, 1, none⟩) (by simp) _⟩
          have e : ((cntX x : Int) - 1) = (cntX (joinX x a c) : Int) := by have := HcX.out; rw [HJ.out]; omega
          rw [← e]
          exact hs6
  · obtain ⟨A, hA⟩ : ∃ A, A = R a := ⟨_, rfl⟩
    obtain ⟨B, hB⟩ : ∃ A, A = R c := ⟨_, rfl⟩
    rw [← hA] at HR hlt ltA rA
    rw [← hB] at HR hlt ltC rC
    have HJ := Lib.hid (joinX_eq g ha hc)
    have HcX := Lib.hid (cntX_join g ltA ltC rA rC HR.out)
    rw [← hA, ← hB] at HJ
    have HA := Lib.hid hA.symm
    have HB := Lib.hid hB.symm
    clear hA hB
    go_enter Try.func10, Try.ntmps10
    go_wp2_with (go_at_call 23; refine (has_any _ n _ _ _ (by assumption)).mono ?_; rintro e w' ⟨rfl, rfl⟩)
    refine (root_any s b n _ a w cs up sz ls R h ha).mono ?_
    rintro e w1 ⟨rfl, ⟨cs1, up1, h1⟩, u1⟩
    go_wp2_with fail
    refine (root_any s b n _ c w1 cs1 up1 sz ls R h1 hc).mono ?_
    rintro e w2 ⟨rfl, ⟨cs2, up2, h2⟩, u2⟩
    have u3 : Upd [s, b] w w2 := (u1.trans u2).mono (by simp)
    rw [HA.out, HB.out]
    have hAB : ((A : Int) == (B : Int)) = false := by have := HR.out; simp; omega
    have small := h2.small
    have lzA := h2.forest.le A ltA
    have lzC := h2.forest.le B ltC
    have hs2 := h2.hs
    have hb2 := h2.hb
    have ht2 := h2.tree
    have hne := h2.ne
    have HG := (g.halve h2.forest).join ltA ltC rA rC HR.out hlt
    have cl := h2.cl
    have cz1 := h2.cz ltA
    have cz2 := h2.cz ltC
    have cuB := h2.cu ltC
    have fr := h2.fb (B * 3)
    have g0 := g
    clear u1 u2 h h1 h2 g rA rC
    go_wp2
    go_region
    go_wp2_with fail
    have hs3 : IsRow (w2.setCell ⟨b, B * 3, none⟩ (.int .i64 A)).drew s 52 _ := hs2.setCell_other _ hne.symm _
    have hb3 : IsRow (w2.setCell ⟨b, B * 3, none⟩ (.int .i64 A)).drew b 54 _ := hb2.setCell_same _ _
    have ht3 := ht2.set_u ltC A
    have u4 : Upd [s, b] w (w2.setCell ⟨b, B * 3, none⟩ (.int .i64 A)).drew := (u3.setCell (p := ⟨b, B * 3, none⟩) (by simp) _).drew
    clear cl cz1 cz2 cuB fr u3 hs2 hb2 ht2
    generalize (w2.setCell ⟨b, B * 3, none⟩ (.int .i64 A)).drew = w3 at hs3 hb3 u4 ⊢
    as_aux_lemma =>
      have cl := hs3.cell 0
      have cz1 := (hb3.cell (A * 3 + 1)).trans (ht3.z A ltA)
      have cz2 := (hb3.cell (B * 3 + 1)).trans (ht3.z B ltC)
      have fr := hb3.free (A * 3 + 1)
      go_region
      have hsz : ((sz A : Int) + (sz B : Int)) = ((sz A + sz B : Nat) : Int) := by omega
      rw [hsz]
      clear hsz
      have hs4 : IsRow (w3.setCell ⟨b, A * 3 + 1, none⟩ (.int .i64 ((sz A + sz B : Nat) : Int))).drew s 52 _ := hs3.setCell_other _ hne.symm _
      have hb4 : IsRow (w3.setCell ⟨b, A * 3 + 1, none⟩ (.int .i64 ((sz A + sz B : Nat) : Int))).drew b 54 _ := hb3.setCell_same _ _
      have ht4 := ht3.set_z ltA (sz A + sz B)
      have u5 : Upd [s, b] w (w3.setCell ⟨b, A * 3 + 1, none⟩ (.int .i64 ((sz A + sz B : Nat) : Int))).drew := (u4.setCell (p := ⟨b, A * 3 + 1, none⟩) (by simp) _).drew
      clear cl cz1 cz2 fr u4 hs3 hb3 ht3
      generalize (w3.setCell ⟨b, A * 3 + 1, none⟩ (.int .i64 ((sz A + sz B : Nat) : Int))).drew = w4 at hs4 hb4 u5 ⊢
      as_aux_lemma =>
        have cl := hs4.cell 0
        have cz1 := (hb4.cell (A * 3 + 2)).trans (ht4.l A ltA)
        have cz2 := (hb4.cell (B * 3 + 2)).trans (ht4.l B ltC)
        have fr := hb4.free (A * 3 + 2)
        go_wp2_with fail
        go_region
        have hmn : (if ls B < ls A then (ls B : Int) else (ls A : Int)) = ((min (ls A) (ls B) : Nat) : Int) := by split <;> omega
        rw [hmn]
        clear hmn
        have hs5 : IsRow (w4.setCell ⟨b, A * 3 + 2, none⟩ (.int .i64 ((min (ls A) (ls B) : Nat) : Int))).drew s 52 _ := hs4.setCell_other _ hne.symm _
        have hb5 : IsRow (w4.setCell ⟨b, A * 3 + 2, none⟩ (.int .i64 ((min (ls A) (ls B) : Nat) : Int))).drew b 54 _ := hb4.setCell_same _ _
        have ht5 := ht4.set_l ltA (min (ls A) (ls B))
        have u6 : Upd [s, b] w (w4.setCell ⟨b, A * 3 + 2, none⟩ (.int .i64 ((min (ls A) (ls B) : Nat) : Int))).drew := (u5.setCell (p := ⟨b, A * 3 + 2, none⟩) (by simp) _).drew
        clear cl cz1 cz2 fr u5 hs4 hb4 ht4
        generalize (w4.setCell ⟨b, A * 3 + 2, none⟩ (.int .i64 ((min (ls A) (ls B) : Nat) : Int))).drew = w5 at hs5 hb5 u6 ⊢
        as_aux_lemma =>
          have cl := hs5.cell 1
          have fr := hs5.free 1
          have b1 : 1 ≤ cntX x := by have := HcX.out; omega
          have b2 : cntX x ≤ 1048576 := Nat.le_trans (cntTo_le _ _) (by rw [g0.len]; exact small)
          go_wp2_with fail
          go_ret2
          have hs6 := hs5.setCell_same 1 (.int .i64 ((cntX x : Int) - 1))
          have hb6 := hb5.setCell_other ⟨s, 1, none⟩ hne (.int .i64 ((cntX x : Int) - 1))
          refine ⟨rfl, ⟨_, _, _, _, _, ⟨hne, ?_, hb6, ht5, HG.forest, small⟩, by rw [HJ.out]; exact HG⟩, u6.setCell (p := ⟨s, 1, none⟩) (by simp) _⟩
          have e : ((cntX x : Int) - 1) = (cntX (joinX x a c) : Int) := by have := HcX.out; rw [HJ.out]; omega
          rw [← e]
          exact hs6

end Go.Proofs.Ytlafnjkcogdljaa
