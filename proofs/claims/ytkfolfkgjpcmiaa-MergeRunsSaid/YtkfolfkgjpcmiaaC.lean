/- Merge. -/
import Derived.Test.YtkfolfkgjpcmiaaB
namespace Go.Proofs.Ytkfolfkgjpcmiaa
open Go.RowKit

/-- One number is appended, inside a region that draws its order. -/
theorem step_append_int {ops : Array Oper} {o : Oper} {a : Act} {K : Act → World → Prop} {Q : Exit → Act → World → Prop} {E : Prop} {w : World} {u : Int} (hgd : o.guard = none) (s x : Operand)
    (ho : o.op = .call { callee := .builtin .append, args := #[s, x], argTypes := #[22, 22] })
    (w0 : World) (v : Value) (xs : List Int) (b c : Nat) (hs : a.eval s = v) (hx : a.eval x = .slice (some ⟨b, 0, none⟩) 1 c) (hc : w.cell? ⟨b, 0, none⟩ = some (.int .i64 u))
    (hown : Own w w0.heap.size v xs) (hu : Upd [] w0 w) (hn : xs.length + 1 ≤ 1048576)
    (h : ∀ v' w', Own w' w0.heap.size v' (xs ++ [u]) → Upd [] w0 w' → K (a.put o.dst v') w') :
    if Region.wanted o (yielded ops a.tmps) = true then Oper.wp Try.prog o a w K Q else E := by
  have hw : Region.wanted o (yielded ops a.tmps) = true := by simp [Region.wanted, hgd]
  rw [if_pos hw]
  obtain ⟨i0, hi, hz0, hz1, hz2⟩ := info_parts Try.info3
  obtain ⟨g, cap, w', hr, h2, h3, _, _⟩ := run_append_lies (P := Try.prog) w 22 o.type w0.heap.size 3 i0 (.int .i64 0) 1 8 Try.underlying22 hi hz0 hz1 hz2 rfl (by decide) v xs.length (ints xs) hown
    ⟨b, 0, none⟩ 1 c [.int .i64 u] rfl (fun j v hj => by match j, hj with | 0, hj => simp at hj; subst hj; rw [add_flat]; exact hc) (by intro u hu; simp at hu; subst hu; rfl) (by omega) (by unfold maxLen; omega) (by omega) hu.size _ rfl
  have h5 := own_grown hown h3 hu (Nat.le_refl _)
  unfold Oper.wp execOp
  simp only [ho, resolve, invoke, builtin, Sem.run_bind, Sem.run_pure, Result.andThen_ok, List.map_toArray, List.map_cons, List.map_nil, hs, hx, hr]
  refine h _ w' ?_ h5
  unfold Own
  rw [ints_append, List.length_append]
  exact h2

theorem cell_new (w : World) (v : Value) (t : TypeId) : (w.alloc (.cells #[v] t)).cell? ⟨w.heap.size, 0, none⟩ = some v := by
  have := one_at w v t 0 v rfl
  rwa [add_flat] at this

/-- 'l[1:]' -/
theorem View.tail {w : World} {b off cap : Nat} {x : Int} {xs : List Int} (h : View w (some ⟨b, off, none⟩) cap (x :: xs)) (p : Option Addr) (hp : p = some ⟨b, off + 1, none⟩ ∨ (cap = 1 ∧ p ≠ none)) : View w p (cap - 1) xs := by
  have hle := h.le
  simp only [List.length_cons] at hle
  refine ⟨by omega, by have := h.max; omega, fun e => ?_, fun i y hi => ?_⟩
  · rcases hp with hp | hp
    · rw [hp] at e; cases e
    · exact absurd e hp.2
  · rcases hp with hp | hp
    · obtain ⟨b', o', h1, h2, h3⟩ := h.cells (i + 1) y (by simpa using hi)
      cases h1
      refine ⟨b, off + 1, hp, h2, fun j z hz => ?_⟩
      have := h3 (j + 1) z (by simpa using hz)
      rw [show off + 1 + j = off + (j + 1) from by omega]
      exact this
    · have : i < xs.length := (List.getElem?_eq_some_iff.1 hi).1
      omega

set_option maxHeartbeats 1000000 in
theorem merge_any (p q : Option Addr) (c d : Nat) (xs ys : List Int) (w : World) (hx : View w p c xs) (hy : View w q d ys) (hn : xs.length + ys.length ≤ 1048576) :
    Calls Try.prog 15 #[.slice p xs.length c, .slice q ys.length d, .func (.func 11) #[] #[]] w fun e w' => (∃ v, e = .returned v ∧ Own w' w.heap.size v (mergeK key xs ys)) ∧ Upd [] w w' := by
  obtain ⟨i0, hi, hz0, hz1, hz2⟩ := info_parts Try.info3
  have HX := Lib.hid hx
  have HY := Lib.hid hy
  clear hx hy
  go_enter Try.func15, Try.ntmps15
  go_wp2_with (at_make; refine wpList_make_own _ rfl _ _ 22 rfl w.heap.size 3 i0 (.int .i64 0) 1 Try.underlying22 hi hz0 hz1 _ _ _ (xs.length + ys.length) rfl rfl (by omega) (by rw [hz2]; omega) (by unfold maxLen; omega) (Nat.le_refl _) ?_)
  intro w1 hown hgr
  have U0 : Upd [] w w1 := (Upd.refl [] w).grown hgr (fun k hk => by cases hk)
  have HO : Own w1 w.heap.size (.slice (some ⟨w.heap.size, 0, none⟩) 0 (xs.length + ys.length)) [] := hown
  clear hown hgr hi hz0 hz1 hz2
  go_wp2_with fail
  go_loopw [0, 1, 7] (fun u0 u1 u7 wr => ∃ (a b dn : List Int) (pa pb : Option Addr) (ca cb : Nat), u0 = .slice pa a.length ca ∧ u1 = .slice pb b.length cb ∧ View w pa ca a ∧ View w pb cb b ∧ Own wr w.heap.size u7 dn ∧ dn ++ mergeK key a b = mergeK key xs ys ∧ dn.length + a.length + b.length = xs.length + ys.length ∧ Upd [] w wr) (fun u0 u1 _ _ => lenV u0 + lenV u1)
  case atStart => exact ⟨xs, ys, [], p, q, c, d, rfl, rfl, HX.out, HY.out, HO, rfl, by simp, U0⟩
  case round =>
    obtain ⟨a, b, dn, pa, pb, ca, cb, rfl, rfl, hva, hvb, hod, hmg, hlen, U1⟩ := hrel
    have HVA := Lib.hid hva
    have HVB := Lib.hid hvb
    have HD := Lib.hid hod
    have HM := Lib.hid hmg
    clear hva hvb hod hmg
    match a, b, HVA, HVB, HM, hlen with
    | [], b, HVA, HVB, HM, hlen =>
      go_wp2_with (at_builtin; refine wpList_append_view rfl _ _ rfl w.heap.size _ dn [] pa ca rfl rfl HD.out (HVA.out.upd U1) U1.size (by simp at hlen ⊢; omega) ?_)
      intro v2 w2 ho2 hg2
      have U2 := own_grown HD.out hg2 U1 (Nat.le_refl _)
      clear hg2
      go_wp2_with (at_builtin; refine wpList_append_view rfl _ _ rfl w.heap.size _ _ b pb cb rfl rfl ho2 (HVB.out.upd U2) U2.size (by simp at hlen ⊢; omega) ?_)
      intro v3 w3 ho3 hg3
      have U3 := own_grown ho2 hg3 U2 (Nat.le_refl _)
      clear hg3
      go_wp2
      go_ret
      refine ⟨⟨_, rfl, ?_⟩, U3⟩
      rw [← HM.out, show mergeK key [] b = b from by simp [mergeK]]
      simpa using ho3
    | x :: a, [], HVA, HVB, HM, hlen =>
      go_wp2_with (at_builtin; refine wpList_append_view rfl _ _ rfl w.heap.size _ dn (x :: a) pa ca rfl rfl HD.out (HVA.out.upd U1) U1.size (by simp at hlen ⊢; omega) ?_)
      intro v2 w2 ho2 hg2
      have U2 := own_grown HD.out hg2 U1 (Nat.le_refl _)
      clear hg2
      go_wp2_with (at_builtin; refine wpList_append_view rfl _ _ rfl w.heap.size _ _ [] pb cb rfl rfl ho2 (HVB.out.upd U2) U2.size (by simp at hlen ⊢; omega) ?_)
      intro v3 w3 ho3 hg3
      have U3 := own_grown ho2 hg3 U2 (Nat.le_refl _)
      clear hg3
      go_wp2
      go_ret
      refine ⟨⟨_, rfl, ?_⟩, U3⟩
      rw [← HM.out, mergeK_nil_right]
      simpa using ho3
    | x :: a, y :: b, HVA, HVB, HM, hlen =>
      obtain ⟨ba, oa, rfl, hba, hca⟩ := HVA.out.cells 0 x rfl
      obtain ⟨bb, ob, rfl, hbb, hcb⟩ := HVB.out.cells 0 y rfl
      have c1 := (U1.cell (p := ⟨ba, oa + 0, none⟩) hba (by simp)).trans (hca 0 x rfl)
      have c2 := (U1.cell (p := ⟨bb, ob + 0, none⟩) hbb (by simp)).trans (hcb 0 y rfl)
      rw [Nat.add_zero] at c1 c2
      have z1 : (0 : Int) < (a.length : Int) + 1 := by omega
      have z2 : (0 : Int) < (b.length : Int) + 1 := by omega
      simp only [List.length_cons] at hlen
      clear hca hcb
      by_cases hlt : key y < key x
      · have ht : decide (ord y x < 0) = true := decide_eq_true (ord_lt.2 hlt)
        have HLT := Lib.hid hlt
        clear hlt
        go_wp2_with fail
        go_quiet ((go_at_call 11; first | exact Calls.quiet_of_same (ord_any _ _ _)))
        go_wp2_with fail
        have c3 : (wr.drewN nq).cell? ⟨bb, ob, none⟩ = some (.int .i64 y) := c2
        have U2 := U1.drewN nq
        have HD2 : Own (wr.drewN nq) w.heap.size u7 dn := HD.out
        clear HD U1 c1 c2
        generalize wr.drewN nq = wr2 at U2 HD2 c3 ⊢
        have HD := Lib.hid HD2
        clear HD2
        have z3 : (1 : Int) ≤ (b.length : Int) + 1 := by omega
        have hb2 := Nat.lt_of_lt_of_le hbb U2.size
        by_cases hcb : cb = 1
        · subst hcb
          go_region_held3 (fun w' => w'.cell? ⟨bb, ob, none⟩ = some (.int .i64 y)) (first | assumption | exact (((Upd.refl [] wr2).alloc _).cell (p := ⟨bb, ob, none⟩) hb2 (by simp)).trans c3) (first | (refine step_append_int (u := y) rfl (.tmp 31) (.tmp 35) rfl w u7 dn wr2.heap.size 1 (by rfl) (by rfl) (cell_new _ _ _) (HD.out.kept ((Upd.refl [] wr2).alloc (.cells #[.int .i64 y] 3)).drew (by simp)) (U2.alloc _).drew (by omega) ?_; intro v2 w2 ho2 U3; have c4 := (U3.cell (p := ⟨bb, ob, none⟩) hbb (by simp)).trans ((U2.cell (p := ⟨bb, ob, none⟩) hbb (by simp)).symm.trans c3)))
          go_wp2_with fail
          go_roundw
          case rel =>
            refine ⟨x :: a, b, dn ++ [y], _, _, ca, 1 - 1, rfl, rfl, HVA.out, HVB.out.tail _ (.inr ⟨rfl, by simp⟩), ho2, ?_, by simp; omega, U3⟩
            rw [← HM.out, mergeK, if_pos (HLT.out)]; simp
          case measure => simp [lenV]
        · skip
          go_region_held3 (fun w' => w'.cell? ⟨bb, ob, none⟩ = some (.int .i64 y)) (first | assumption | exact (((Upd.refl [] wr2).alloc _).cell (p := ⟨bb, ob, none⟩) hb2 (by simp)).trans c3) (first | (refine step_append_int (u := y) rfl (.tmp 31) (.tmp 35) rfl w u7 dn wr2.heap.size 1 (by rfl) (by rfl) (cell_new _ _ _) (HD.out.kept ((Upd.refl [] wr2).alloc (.cells #[.int .i64 y] 3)).drew (by simp)) (U2.alloc _).drew (by omega) ?_; intro v2 w2 ho2 U3; have c4 := (U3.cell (p := ⟨bb, ob, none⟩) hbb (by simp)).trans ((U2.cell (p := ⟨bb, ob, none⟩) hbb (by simp)).symm.trans c3)))
          go_wp2_with fail
          go_roundw
          case rel =>
            refine ⟨x :: a, b, dn ++ [y], _, _, ca, cb - 1, rfl, rfl, HVA.out, HVB.out.tail _ (.inl rfl), ho2, ?_, by simp; omega, U3⟩
            rw [← HM.out, mergeK, if_pos (HLT.out)]; simp
          case measure => simp [lenV]
      · have ht : decide (ord y x < 0) = false := decide_eq_false (fun e => hlt (ord_lt.1 e))
        have HLT := Lib.hid hlt
        clear hlt
        go_wp2_with fail
        go_quiet ((go_at_call 11; first | exact Calls.quiet_of_same (ord_any _ _ _)))
        go_wp2_with fail
        have c3 : (wr.drewN nq).cell? ⟨ba, oa, none⟩ = some (.int .i64 x) := c1
        have U2 := U1.drewN nq
        have HD2 : Own (wr.drewN nq) w.heap.size u7 dn := HD.out
        clear HD U1 c1 c2
        generalize wr.drewN nq = wr2 at U2 HD2 c3 ⊢
        have HD := Lib.hid HD2
        clear HD2
        have z3 : (1 : Int) ≤ (a.length : Int) + 1 := by omega
        have hb2 := Nat.lt_of_lt_of_le hba U2.size
        by_cases hcb : ca = 1
        · subst hcb
          go_region_held3 (fun w' => w'.cell? ⟨ba, oa, none⟩ = some (.int .i64 x)) (first | assumption | exact (((Upd.refl [] wr2).alloc _).cell (p := ⟨ba, oa, none⟩) hb2 (by simp)).trans c3) (first | (refine step_append_int (u := x) rfl (.tmp 39) (.tmp 43) rfl w u7 dn wr2.heap.size 1 (by rfl) (by rfl) (cell_new _ _ _) (HD.out.kept ((Upd.refl [] wr2).alloc (.cells #[.int .i64 x] 3)).drew (by simp)) (U2.alloc _).drew (by omega) ?_; intro v2 w2 ho2 U3; have c4 := (U3.cell (p := ⟨ba, oa, none⟩) hba (by simp)).trans ((U2.cell (p := ⟨ba, oa, none⟩) hba (by simp)).symm.trans c3)))
          go_wp2_with fail
          go_roundw
          case rel =>
            refine ⟨a, y :: b, dn ++ [x], _, _, 1 - 1, cb, rfl, rfl, HVA.out.tail _ (.inr ⟨rfl, by simp⟩), HVB.out, ho2, ?_, by simp; omega, U3⟩
            rw [← HM.out, mergeK, if_neg (Int.not_lt.2 HLT.out)]; simp
          case measure => simp [lenV]
        · skip
          go_region_held3 (fun w' => w'.cell? ⟨ba, oa, none⟩ = some (.int .i64 x)) (first | assumption | exact (((Upd.refl [] wr2).alloc _).cell (p := ⟨ba, oa, none⟩) hb2 (by simp)).trans c3) (first | (refine step_append_int (u := x) rfl (.tmp 39) (.tmp 43) rfl w u7 dn wr2.heap.size 1 (by rfl) (by rfl) (cell_new _ _ _) (HD.out.kept ((Upd.refl [] wr2).alloc (.cells #[.int .i64 x] 3)).drew (by simp)) (U2.alloc _).drew (by omega) ?_; intro v2 w2 ho2 U3; have c4 := (U3.cell (p := ⟨ba, oa, none⟩) hba (by simp)).trans ((U2.cell (p := ⟨ba, oa, none⟩) hba (by simp)).symm.trans c3)))
          go_wp2_with fail
          go_roundw
          case rel =>
            refine ⟨a, y :: b, dn ++ [x], _, _, ca - 1, cb, rfl, rfl, HVA.out.tail _ (.inl rfl), HVB.out, ho2, ?_, by simp; omega, U3⟩
            rw [← HM.out, mergeK, if_neg (Int.not_lt.2 HLT.out)]; simp
          case measure => simp [lenV]

end Go.Proofs.Ytkfolfkgjpcmiaa
