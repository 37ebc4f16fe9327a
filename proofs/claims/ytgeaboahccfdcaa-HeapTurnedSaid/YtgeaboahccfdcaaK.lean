/- HeapDrains: the walk. -/
import Derived.Test.YtgeaboahccfdcaaJ
import Derived.Test.YtgeaboahccfdcaaI
namespace Go.Proofs.Ytgeaboahccfdcaa
open Go.RowKit
attribute [local go_sem] Oper.semAt_some

theorem rises_unique : ∀ {a b : List Int}, Rises a → Rises b → a.Perm b → a = b
  | [], b, _, _, h => by have := h.length_eq; exact (List.eq_nil_of_length_eq_zero (by simpa using this.symm)).symm
  | x :: a, [], _, _, h => by have := h.length_eq; simp at this
  | x :: a, y :: b, ha, hb, h => by
    have h1 := List.pairwise_cons.1 ha
    have h2 := List.pairwise_cons.1 hb
    have hxy : x = y := by
      have hx : x ∈ y :: b := h.mem_iff.1 List.mem_cons_self
      have hy : y ∈ x :: a := h.mem_iff.2 List.mem_cons_self
      have hle1 : y ≤ x := by rcases List.mem_cons.1 hx with e | e; · omega
                              · exact h2.1 x e
      have hle2 : x ≤ y := by rcases List.mem_cons.1 hy with e | e; · omega
                              · exact h1.1 y e
      omega
    subst hxy
    rw [rises_unique h1.2 h2.2 (List.Perm.cons_inv h)]

theorem Drained.whole {xs0 pre ys : List Int} (D : Drained false xs0 pre ys) : putAll xs0 = pre ++ putAll ys := by
  have h0 := putAll_spec xs0
  have h1 := putAll_spec ys
  refine rises_unique h0.2 ?_ ?_
  · unfold Rises
    rw [List.pairwise_append]
    refine ⟨?_, h1.2, fun a ha b hb => ?_⟩
    · have := D.rises
      simpa [kd] using this
    · have := D.le a ha b (h1.1.mem_iff.1 hb)
      simpa [kd] using this
  · exact h0.1.trans (D.perm.symm.trans (List.Perm.append_left pre h1.1.symm))

/-- Where the law's variables lie. -/
structure DBoxes (W : World) (bst bre bl bkk B : Nat) (stop : Int) (lv : Value) (L : List Int) (k : Nat) : Prop where
  st : IsRow W bst 3 [.int .i64 stop]
  re : ∃ u, IsRow W bre 4 [.bool u]
  l_ : IsRow W bl 22 [lv]
  own : Own W B lv L
  ne : lv.ownBlock ≠ some bkk
  k_ : IsRow W bkk 3 [.int .i64 k]

theorem DBoxes.upd {W W' : World} {S bst bre bl bkk B stop lv L k} (h : DBoxes W bst bre bl bkk B stop lv L k) (u : Upd S W W') (hn : ∀ z, z ∈ [bst, bre, bl, bkk] → z ∉ S) (hB : ∀ z, z ∈ S → z < B) : DBoxes W' bst bre bl bkk B stop lv L k := by
  obtain ⟨t, ht⟩ := h.re
  exact ⟨h.st.upd u (hn _ (by simp)), ⟨t, ht.upd u (hn _ (by simp))⟩, h.l_.upd u (hn _ (by simp)), h.own.kept u hB, h.ne, h.k_.upd u (hn _ (by simp))⟩

theorem DBoxes.keptF {W W' : World} {T B0 bst bre bl bkk B stop lv L k} (h : DBoxes W bst bre bl bkk B stop lv L k) (u : UpdF T B0 W W') (hn : ∀ z, z ∈ [bst, bre, bl, bkk] → z ∉ T) (hB : ∀ z, z ∈ T → z < B) : DBoxes W' bst bre bl bkk B stop lv L k := by
  obtain ⟨t, ht⟩ := h.re
  exact ⟨u.row h.st (hn _ (by simp)), ⟨t, u.row ht (hn _ (by simp))⟩, u.row h.l_ (hn _ (by simp)), h.own.keptF u hB, h.ne, u.row h.k_ (hn _ (by simp))⟩

theorem len_q (t : Bool) (h : Nat) (v : Value) (xs : List Int) (w : World) (H : HeapAt w t h v xs) : Calls Try.prog 13 #[.pointer (some ⟨h, 0, none⟩)] w fun e w' => e = .returned (.int .i64 xs.length) ∧ w' = w := len_any t h v xs w H

set_option maxRecDepth 100000 in
set_option maxHeartbeats 1000000 in
theorem drains_walk (v0 : Value) (stop : Int) (xs : List Int) (w : World) (hx : Lst w v0 xs) : Calls Try.prog 5 #[v0, .int .i64 stop] w fun e w' => e = .returned (.bool true) ∧ Upd [] w w' := by
  obtain ⟨p, c, rfl, hv⟩ := hx
  have rst0 := (IsRow.new w [.int .i64 stop] 3).alloc (.cells #[.bool false] 4)
  have rre0 := IsRow.new (w.alloc (.cells #[.int .i64 stop] 3)) [.bool false] 4
  have U0 : Upd [] w ((w.alloc (.cells #[.int .i64 stop] 3)).alloc (.cells #[.bool false] 4)) := ((Upd.refl [] w).alloc _).alloc _
  have hz0 : ((w.alloc (.cells #[.int .i64 stop] 3)).alloc (.cells #[.bool false] 4)).heap.size = w.heap.size + 2 := by simp
  simp only [World.size_alloc] at rre0
  by_cases hl : 150 < xs.length
  · clear rst0 hz0
    go_enter Try.func5, Try.ntmps5
    go_wp2_with fail
    generalize (w.alloc (.cells #[.int .i64 stop] 3)).alloc (.cells #[.bool false] 4) = w1 at rre0 U0 ⊢
    refine (awake_any _).mono ?_
    rintro e w9 ⟨rfl, U9⟩
    have r9 := rre0.upd U9 (by simp)
    have c9 := r9.cell 0
    have f9 := r9.free 0
    have c10 := (r9.setCell_same 0 (.bool true)).cell 0
    simp only [List.getElem?_cons_zero, List.set_cons_zero] at c9 c10
    have U10 := (U0.trans U9).setCell_new (p := ⟨w.heap.size + 1, 0, none⟩) (by show w.heap.size ≤ w.heap.size + 1; omega) (.bool true)
    clear rre0 r9 U0 U9
    go_wp2_with fail
    exact bodyPost_ret (v := .bool true) (by simp [results, Try.results5, go_sem, c10]) rfl ⟨rfl, U10⟩
  · have hn : xs.length ≤ 150 := by omega
    have HV := Lib.hid hv
    have l0 := hv.lst.upd U0
    clear hv
    refine (callsIn_wide (n := 3)).1 ?_
    refine callsIn_of_wp_marks Try.func5 rfl trivial ?_ rfl
    refine wpIn_wide.2 ?_
    simp only [Try.ntmps5, List.size_toArray, List.length_cons, List.length_nil, Nat.reduceAdd, Nat.reduceSub, Array.replicate_succ, Array.replicate_zero, List.push_toArray, List.append_toArray, List.nil_append, List.cons_append]
    go_wp2_with fail
    obtain ⟨bst, hbst⟩ : ∃ z, z = w.heap.size := ⟨_, rfl⟩
    obtain ⟨bre, hbre⟩ : ∃ z, z = w.heap.size + 1 := ⟨_, rfl⟩
    rw [← hbst] at rst0
    rw [← hbre] at rre0
    rw [← hbre, ← hbst]
    have HBS := Lib.hid (And.intro hbst hbre)
    clear hbst hbre
    generalize (w.alloc (.cells #[.int .i64 stop] 3)).alloc (.cells #[.bool false] 4) = w0 at rst0 rre0 U0 l0 hz0 ⊢
    refine (new9 _ xs w0 l0 (by omega)).mono ?_
    rintro e w1 ⟨h, v, ys, rfl, H1, hh1, hp1, U1, hb1, hg1⟩
    have hS := bk_high hb1 hg1
    have HS := Lib.hid hS
    have HLT := Lib.hid H1.lt
    have HHP := Lib.hid (And.intro hh1 hp1)
    have rst1 := rst0.upd U1 (by simp)
    have rre1 := rre0.upd U1 (by simp)
    have hz1 := U1.size
    have U2 := U0.trans U1
    clear hS hb1 hg1 hh1 hp1 rst0 rre0 U0 U1 l0
    go_wp2_with fail
    obtain ⟨bl, hbl⟩ : ∃ z, z = w1.heap.size := ⟨_, rfl⟩
    have rl1 := IsRow.new w1 [.slice none 0 0] 22
    rw [← hbl] at rl1 ⊢
    have rst2 := rst1.alloc (.cells #[.slice none 0 0] 22)
    have rre2 := rre1.alloc (.cells #[.slice none 0 0] 22)
    have H2 := H1.upd ((Upd.refl [] w1).alloc (.cells #[.slice none 0 0] 22)) (by simp)
    have U3 := U2.alloc (.cells #[.slice none 0 0] 22)
    have hz2 : bl < (w1.alloc (.cells #[.slice none 0 0] 22)).heap.size := by rw [hbl]; simp
    have hlt1 : w1.heap.size = bl := hbl.symm
    have HBL := Lib.hid hlt1
    clear rst1 rre1 H1 U2 hbl hlt1
    generalize w1.alloc (.cells #[.slice none 0 0] 22) = w2 at rl1 rst2 rre2 H2 U3 hz2 ⊢
    go_loopw [23] (fun u23 wr => ∃ (j : Nat) (lv : Value), j ≤ xs.length ∧ u23 = .int .i64 j ∧ IsRow wr bl 22 [lv] ∧ Own wr w2.heap.size lv (putAll (xs.take j)) ∧ Upd [bl] w2 wr) (fun u23 _ => xs.length - (intOf u23).toNat)
    case atStart => exact ⟨0, _, Nat.zero_le _, rfl, rl1, Own.nil _ _, Upd.refl _ _⟩
    case round =>
      obtain ⟨j, lv, hj, rfl, rl, hown, U4⟩ := hrel
      clear rl1
      have hol := putAll_len (xs.take j)
      rw [List.length_take] at hol
      have cl : wr.cell? ⟨bl, 0, none⟩ = some lv := rl.cell 0
      have U5 : Upd [] w wr := ((U3.mono (S' := [bl]) (by simp)).trans U4).shrink (by have := HBL.out; have := HBS.out; simp; omega)
      by_cases hjl : j < xs.length
      · obtain ⟨a, ha⟩ : ∃ a, xs[j]? = some a := ⟨xs[j], List.getElem?_eq_getElem hjl⟩
        obtain ⟨bx, ox, rfl, hbx, hcx⟩ := (HV.out.upd U5).cells j a ha
        have ca := hcx j a ha
        have hsn : putAll (xs.take (j + 1)) = put (putAll (xs.take j)) a := by rw [List.take_add_one, ha]; exact putAll_snoc _ _
        have HSN := Lib.hid hsn
        have lo := hown.lst
        have hlo : (putAll (xs.take j)).length ≤ 1000 := by omega
        clear hcx ha hsn hown hol U5
        go_wp2_with fail
        refine (put_any _ _ a wr lo (by omega)).mono ?_
        rintro e w3 ⟨⟨r3, rfl, ho3⟩, U6⟩
        have rl3 := rl.upd U6 (by simp)
        have cl3 : w3.cell? ⟨bl, 0, none⟩ = some lv := rl3.cell 0
        have fl3 := rl3.free 0
        have rl4 := rl3.setCell_same 0 r3
        have ho4 : Own (w3.setCell ⟨bl, 0, none⟩ r3) w2.heap.size r3 (put (putAll (xs.take j)) a) := (ho3.mono U4.size).kept ((Upd.refl [bl] w3).setCell (p := ⟨bl, 0, none⟩) (by simp) r3) (by simpa using hz2)
        have U7 := (U4.trans (U6.mono (by simp))).setCell (p := ⟨bl, 0, none⟩) (by simp) r3
        obtain ⟨rp, rc, rfl, _⟩ := ho3.view
        have HF := Lib.hid (And.intro rl4 (And.intro ho4 U7))
        clear ho3 lo ca U4 U6 rl rl3 rl4 ho4 U7 cl
        go_wp2_with fail
        go_roundw
        case rel => exact ⟨j + 1, _, hjl, by go_num, HF.out.1, by rw [HSN.out]; exact HF.out.2.1, HF.out.2.2⟩
        case measure => simp [intOf]; omega
      · have hje : j = xs.length := by omega
        subst hje
        rw [List.take_length] at hown
        have hLl : (putAll xs).length = xs.length := putAll_len xs
        obtain ⟨L, hL⟩ : ∃ L, L = putAll xs := ⟨_, rfl⟩
        rw [← hL] at hown hLl
        have HL := Lib.hid hL
        have H3 := H2.upd U4 (fun z hz e => by rw [List.mem_singleton] at e; subst e; have := HLT.out z hz; have := HBL.out; omega)
        have rst3 := rst2.upd U4 (by have := HBS.out; have := HBL.out; simp; omega)
        have rre3 := rre2.upd U4 (by have := HBS.out; have := HBL.out; simp; omega)
        have hz3 := U4.size
        clear hL hol U3 U4 rst2 rre2 H2 cl hj hjl
        go_wp2_with fail
        obtain ⟨bkk, hbkk⟩ : ∃ z, z = wr.heap.size := ⟨_, rfl⟩
        have rk4 := IsRow.new wr [.int .i64 0] 3
        have hnek : lv.ownBlock ≠ some bkk := fun e => by have := (World.ownsRow.lt hown _ e).2; omega
        rw [← hbkk] at rk4 ⊢
        have U6 : Upd [] wr (wr.alloc (.cells #[.int .i64 0] 3)) := (Upd.refl [] wr).alloc _
        have D4 : DBoxes (wr.alloc (.cells #[.int .i64 0] 3)) bst bre bl bkk w2.heap.size stop lv L 0 := ⟨rst3.upd U6 (by simp), ⟨_, rre3.upd U6 (by simp)⟩, rl.upd U6 (by simp), hown.kept U6 (by simp), hnek, rk4⟩
        have H4 := H3.upd U6 (by simp)
        have U7 := U5.trans U6
        have hz4 : bkk < (wr.alloc (.cells #[.int .i64 0] 3)).heap.size := by rw [hbkk]; simp
        have HBK := Lib.hid (show w2.heap.size ≤ bkk by omega)
        clear rst3 rre3 rl hown rk4 H3 U5 U6 hbkk hz3 hnek
        generalize wr.alloc (.cells #[.int .i64 0] 3) = w4 at D4 H4 U7 hz4 ⊢
        refine (drain_any h w4).mono ?_
        rintro e w5 ⟨rfl, rfl⟩
        obtain ⟨q, hq⟩ : ∃ z, z = w4.heap.size := ⟨_, rfl⟩
        have rq := IsRow.new w4 [.pointer (some ⟨h, 0, none⟩)] 25
        rw [← hq] at rq ⊢
        have U8 : Upd [] w4 (w4.alloc (.cells #[.pointer (some ⟨h, 0, none⟩)] 25)) := (Upd.refl [] w4).alloc _
        have D5 := D4.upd U8 (by simp) (by simp)
        have H5 := H4.upd U8 (by simp)
        have U9 := U7.trans U8
        have hz5 : q < (w4.alloc (.cells #[.pointer (some ⟨h, 0, none⟩)] 25)).heap.size := by rw [hq]; simp
        have HQ := Lib.hid hq
        clear D4 H4 U7 U8 hq
        generalize w4.alloc (.cells #[.pointer (some ⟨h, 0, none⟩)] 25) = w5 at rq D5 H5 U9 hz5 ⊢
        have hnb : ∀ z, z ∈ [bst, bre, bl, bkk] → z ∉ bk h v := by
          intro z hz hb
          have g1 := HS.out z hb
          have g2 := HLT.out z hb
          have g3 := HBS.out
          have g4 := HBL.out
          have g5 := HBK.out
          simp only [List.mem_cons, List.mem_nil_iff, or_false] at hz
          omega
        have hTB : ∀ z, z ∈ bk h v → z < w2.heap.size := by
          intro z hb
          have g2 := HLT.out z hb
          have g4 := HBL.out
          omega
        have hqb : q ∉ bk h v := fun e => by
          have g2 := hTB q e
          have g3 := HQ.out
          have g4 := HBK.out
          omega
        have HNB := Lib.hid hnb
        have HTB := Lib.hid hTB
        have HQB := Lib.hid hqb
        clear hnb hTB hqb
        go_wp2_with fail
        have hlw : w.heap.size ≤ w5.heap.size := U9.size
        have h2w : w2.heap.size ≤ w5.heap.size := by have := HBK.out; have := HQ.out; omega
        have hwT : ∀ z, z ∈ bk h v → w.heap.size ≤ z := fun z hz => by have := HS.out z hz; omega
        refine (wpIn_wide (n := 3)).1 ?_
        refine wp_range2' (gf := 28) (lb := #[.pointer (some ⟨q, 0, none⟩)]) rfl (enters_of Try.func28 (by kernel_rfl) rfl)
          (drain_iter 2 false h q v ys [bre, bkk] w5 H5 HHP.out.1 rq HQB.out (fun z hz hx => by
            simp only [List.mem_cons, List.mem_nil_iff, or_false] at hx
            rcases List.mem_cons.1 hz with e | e
            · have := HQ.out; have := HBK.out; have := HBS.out; have := HBL.out; omega
            · exact HNB.out z (by simp; omega) e)) (fun _ => rfl) (fun z hz => by have := HTB.out z hz; omega)
          (fun pre W => DBoxes W bst bre bl bkk w2.heap.size stop lv L pre.length ∧ Upd [] w W ∧ w5.heap.size ≤ W.heap.size)
          (fun c pre W => c = .exit 2 ∧ DBoxes W bst bre bl bkk w2.heap.size stop lv L pre.length ∧ Upd [] w W ∧ (pre.length : Int) = stop)
          ?hI ?hIx ?hAdm ?hS ?hSp ?h0 (fun t y => (t.setIfInBounds 33 (.int .i64 y)).setIfInBounds 10 (.int .i64 y)) ?assign ?body ?done ?stop
        case hI =>
          rintro pre W W' ⟨h1, h2, h3⟩ u
          exact ⟨h1.keptF u HNB.out HTB.out, u.upd h2 hlw (fun z hz hlt => by have := hwT z hz; omega), Nat.le_trans h3 u.size⟩
        case hIx =>
          rintro c pre W W' ⟨h1, h2, h3, h4⟩ u
          exact ⟨h1, h2.keptF u HNB.out HTB.out, u.upd h3 hlw (fun z hz hlt => by have := hwT z hz; omega), h4⟩
        case hAdm =>
          rintro pre y W W' ⟨ys', D⟩ u
          exact ⟨ys', D.keptF u⟩
        case hS =>
          intro pre W W' D u
          exact D.keptF u
        case hSp =>
          rintro pre W W' ⟨ys', D⟩ u
          exact ⟨ys', D.keptF u⟩
        case h0 => exact ⟨D5, U9, Nat.le_refl _⟩
        case assign =>
          intro l y W K hK
          gi_wp2
          exact hK
        case body =>
          rintro l pre y W ⟨h1, h2, h3⟩ ⟨ys', vv, HA, hvv, hhp, hdr⟩
          dsimp only
          have hwh := hdr.whole
          have hpl : (putAll ys).length = xs.length := by rw [putAll_len]; exact HHP.out.2.length_eq
          have hLL : L = putAll ys := by
            rw [HL.out]
            exact rises_unique (putAll_spec xs).2 (putAll_spec ys).2 ((putAll_spec xs).1.trans (HHP.out.2.symm.trans (putAll_spec ys).1.symm))
          have hLy : L[pre.length]? = some y := by
            rw [hLL, hwh, List.append_assoc, List.getElem?_append_right (Nat.le_refl _), Nat.sub_self]
            rfl
          have hkl := (List.getElem?_eq_some_iff.1 hLy).1
          generalize hk : pre.length = k at *
          have ck : W.cell? ⟨bkk, 0, none⟩ = some (.int .i64 k) := h1.k_.cell 0
          have fk := h1.k_.free 0
          have cl : W.cell? ⟨bl, 0, none⟩ = some lv := h1.l_.cell 0
          obtain ⟨gl, capl, rfl, _⟩ := h1.own.first (by omega)
          have cy := World.ownsRow.cellAt h1.own k (by omega)
          rw [ints_at hLy] at cy
          have hge : decide ((L.length : Int) ≤ (k : Int)) = false := decide_eq_false (by omega)
          have hne : (y != y) = false := by simp
          obtain ⟨Wa, hWa⟩ : ∃ z, z = W.setCell ⟨bkk, 0, none⟩ (.int .i64 ((k : Int) + 1)) := ⟨_, rfl⟩
          have ua : Upd [bkk] W Wa := by rw [hWa]; exact (Upd.refl [bkk] W).setCell (p := ⟨bkk, 0, none⟩) (by simp) _
          have rka : IsRow Wa bkk 3 [.int .i64 ((k : Int) + 1)] := by rw [hWa]; exact h1.k_.setCell_same 0 _
          have hDa : DBoxes Wa bst bre bl bkk w2.heap.size stop (.slice (some ⟨gl, 0, none⟩) L.length capl) L (k + 1) := by
            have g1 := HBK.out
            have g2 := HBS.out
            have g3 := HBL.out
            obtain ⟨tr, hre⟩ := h1.re
            refine ⟨h1.st.upd ua (by simp; omega), ⟨tr, hre.upd ua (by simp; omega)⟩, h1.l_.upd ua (by simp; omega), ?_, ?_, ?_⟩
            · exact h1.own.keptNB ua (fun z hz e => by rw [List.mem_singleton] at e; subst e; exact h1.ne hz)
            · exact h1.ne
            · have e : ((k + 1 : Nat) : Int) = (k : Int) + 1 := by omega
              rw [e]; exact rka
          have cka : Wa.cell? ⟨bkk, 0, none⟩ = some (.int .i64 ((k : Int) + 1)) := rka.cell 0
          have csta : Wa.cell? ⟨bst, 0, none⟩ = some (.int .i64 stop) := hDa.st.cell 0
          have UwA : Upd [] w Wa := by rw [hWa]; exact h2.setCell_new (p := ⟨bkk, 0, none⟩) (by have := HBK.out; have := HBS.out; have := HBL.out; show w.heap.size ≤ bkk; omega) _
          have hLows : Lows [bre, bkk] w5.heap.size W Wa := ua.lows (fun z hz _ => by
            rw [List.mem_singleton] at hz
            subst hz
            have := HQ.out
            exact .inl ⟨by simp, by omega⟩)
          have hk8 : k ≤ 1000 := by omega
          have hsz : w5.heap.size ≤ Wa.heap.size := Nat.le_trans h3 ua.size
          rw [hWa] at cka csta
          have HWA := Lib.hid hWa
          have HD := Lib.hid (And.intro hDa (And.intro UwA (And.intro hLows hsz)))
          have HK := Lib.hid hk
          clear hWa ua rka hDa UwA hLows hsz h1 h2 h3 HA hvv hhp hdr hwh hpl hLL hLy hk
          by_cases hks : (k : Int) + 1 = stop
          · have q1 : ((k : Int) + 1 == stop) = true := by rw [beq_iff_eq]; exact hks
            have HKS := Lib.hid hks
            clear hks
            gi_wp2_with fail
            rw [← HWA.out]
            refine ⟨HD.out.2.2.1, rfl, ?_, HD.out.2.1, ?_⟩
            · rw [List.length_append]
              show DBoxes Wa bst bre bl bkk w2.heap.size stop _ L (pre.length + 1)
              rw [HK.out]
              exact HD.out.1
            · rw [List.length_append]
              show ((pre.length + 1 : Nat) : Int) = stop
              rw [HK.out]
              have := HKS.out
              omega
          · have q1 : ((k : Int) + 1 == stop) = false := by rw [beq_eq_false_iff_ne]; exact hks
            clear hks
            gi_wp2_with fail
            rw [← HWA.out]
            refine ⟨HD.out.2.2.1, ?_, HD.out.2.1, HD.out.2.2.2⟩
            rw [List.length_append]
            show DBoxes Wa bst bre bl bkk w2.heap.size stop _ L (pre.length + 1)
            rw [HK.out]
            exact HD.out.1
        case done =>
          rintro D pre W hD ⟨vv, HA, hvv, hhp, hdr⟩ ⟨h1, h2, h3⟩ hK
          obtain ⟨ys', hy0⟩ : ∃ ys' : List Int, ys' = [] := ⟨[], rfl⟩
          rw [← hy0] at HA hhp hdr
          have hpl : (putAll ys).length = xs.length := by rw [putAll_len]; exact HHP.out.2.length_eq
          have hLL : L = putAll ys := by
            rw [HL.out]
            exact rises_unique (putAll_spec xs).2 (putAll_spec ys).2 ((putAll_spec xs).1.trans (HHP.out.2.symm.trans (putAll_spec ys).1.symm))
          have hLw : L = pre ++ putAll ys' := by rw [hLL]; exact hdr.whole
          have hyl : (putAll ys').length = ys'.length := putAll_len ys'
          have hLn : L.length = pre.length + ys'.length := by rw [hLw, List.length_append, hyl]
          have hdrop : L.drop pre.length = putAll ys' := by rw [hLw, List.drop_append_of_le_length (Nat.le_refl _), List.drop_length, List.nil_append]
          have hff : FirstOk (nth ys' 0) (decide (0 < ys'.length)) (putAll ys') := by
            have hsp := putAll_spec ys'
            refine ⟨fun e => ?_, fun hx => ⟨decide_eq_true (by omega), ?_⟩⟩
            · have e2 : ys' = [] := List.eq_nil_of_length_eq_zero (by rw [← hyl, e]; rfl)
              rw [e2]
              exact ⟨rfl, rfl⟩
            · cases hpp : putAll ys' with
              | nil => rw [hpp] at hx; simp at hx
              | cons a r => rw [hpp] at hsp; exact heap_first hhp hsp.1.symm hsp.2
          have hck : heapB false ys' = true := heapB_iff.2 hhp
          generalize hk : pre.length = k at *
          have hne : ((ys'.length : Int) != (L.length : Int) - (k : Int)) = false := by
            have : (ys'.length : Int) = (L.length : Int) - (k : Int) := by omega
            rw [this]; simp
          have ck : W.cell? ⟨bkk, 0, none⟩ = some (.int .i64 k) := h1.k_.cell 0
          have cst : W.cell? ⟨bst, 0, none⟩ = some (.int .i64 stop) := h1.st.cell 0
          have cl : W.cell? ⟨bl, 0, none⟩ = some lv := h1.l_.cell 0
          obtain ⟨pl, capl, rfl, hvl⟩ := h1.own.view
          have hck2 : k ≤ L.length := by omega
          have hLb : L.length ≤ 150 := by omega
          have HFF := Lib.hid hff
          have HDROP := Lib.hid hdrop
          have HVL := Lib.hid hvl
          have HD1 := Lib.hid h1
          have HH2 := Lib.hid h2
          have HHA := Lib.hid HA
          have HLN := Lib.hid hLn
          have HKK := Lib.hid hK
          clear hpl hLL hLw hyl hLn hdrop hff hk hLl hvl h1 h2 HA hdr hhp hvv hK
          have hkL : k = L.length := by have := HLN.out; rw [hy0] at this; simp at this; omega
          clear h3 hy0
          by_cases hks : (k : Int) = stop
          · have q1 : ((k : Int) != stop) = false := by simp [hks]
            clear hks hkL
            go_wp2_with fail
            go_quiet ((first | (go_at_call 13; exact Calls.quiet_of_same (len_q false h vv ys' _ (HHA.out.drewN _))) | (go_at_call 11; exact Calls.quiet_of (check_q false h vv ys' _ (HHA.out.drewN _)))))
            have ud : Upd [] W (W.drewN nq) := (Upd.refl [] W).drewN nq
            have D6 := HD1.out.upd ud (by simp) (by simp)
            have H6 := HHA.out.drewN nq
            have U6 := HH2.out.trans ud
            have hK6 : (W.drewN nq).heap[D]? = some (.deferred (some [])) := HKK.out
            have hv6 := HVL.out.upd ud
            clear ck cst cl hck hne ud HD1 HHA HH2 HKK HVL q1
            generalize W.drewN nq = W6 at D6 H6 U6 hK6 hv6 ⊢
            have ck : W6.cell? ⟨bkk, 0, none⟩ = some (.int .i64 k) := D6.k_.cell 0
            have cl : W6.cell? ⟨bl, 0, none⟩ = some (.slice pl L.length capl) := D6.l_.cell 0
            go_wp2_with fail
            refine (first_any false h vv ys' W6 H6).mono ?_
            rintro e w7 ⟨rfl, rfl⟩
            generalize nth ys' 0 = y0 at HFF ⊢
            generalize decide (0 < ys'.length) = okb at HFF ⊢
            have hle6 := hv6.le
            have a1 : (k : Int) ≤ (L.length : Int) := by omega
            have a2 : (L.length : Int) ≤ (capl : Int) := by omega
            have H7 := Lib.hid (And.intro D6 (And.intro U6 hK6))
            have HV6 := Lib.hid hv6
            clear D6 U6 hK6 H6 hv6
            cases pl with
            | none =>
              have hc0 := HV6.out.nil rfl
              have hL0 : L.length = 0 := by omega
              have hk0 : k = 0 := by omega
              have hLe : L = [] := List.eq_nil_of_length_eq_zero hL0
              have ls : Lst w7 (.slice none 0 0) (L.drop k) := by
                rw [hLe, List.drop_nil]
                exact (⟨Nat.le_refl _, Nat.zero_le _, fun _ => rfl, fun i x hx => by simp at hx⟩ : View w7 none 0 []).lst
              rw [HDROP.out] at ls
              have cl0 : w7.cell? ⟨bl, 0, none⟩ = some (.slice none 0 0) := by rw [cl, hL0, hc0]
              have ck0 : w7.cell? ⟨bkk, 0, none⟩ = some (.int .i64 0) := by rw [ck, hk0]; rfl
              have LS := Lib.hid ls
              clear hc0 hL0 hk0 hLe ls cl ck a1 a2 hle6 hck2 HV6 HLN HDROP
              go_wp2_with fail
              refine (first_yes y0 okb _ _ w7 LS.out HFF.out).mono ?_
              rintro e w8 ⟨rfl, rfl⟩
              clear LS
              go_wp2_with fail
              refine (awake_any _).mono ?_
              rintro e w9 ⟨rfl, U9⟩
              obtain ⟨D6, U6, hK6⟩ := H7.out
              obtain ⟨tr, hre⟩ := D6.re
              have r9 := hre.upd U9 (by simp)
              have c9 := r9.cell 0
              have f9 := r9.free 0
              simp only [List.getElem?_cons_zero] at c9
              have U10 : Upd [] w (w9.setCell ⟨bre, 0, none⟩ (.bool true)) := (U6.trans U9).setCell_new (p := ⟨bre, 0, none⟩) (by have := HBS.out; show w.heap.size ≤ bre; omega) _
              have r10 := r9.setCell_same 0 (.bool true)
              have hK9 := ((U9.block D (Array.getElem?_eq_some_iff.1 hK6).1 (by simp)).trans hK6)
              have hK10 : (w9.setCell ⟨bre, 0, none⟩ (.bool true)).heap[D]? = some (.deferred (some [])) := (Below.heap_setCell _ _ _ _ (by have := HBS.out; have := HQ.out; have := HBK.out; have := HBL.out; show D ≠ bre; omega)).trans hK9
              have HF := Lib.hid (And.intro U10 (And.intro r10 hK10))
              clear U9 D6 U6 hK6 hre r9 U10 r10 hK9 hK10
              go_wp2_with fail
              refine ⟨by simp, .inl ⟨_, _, rfl, run_takeDeferred HF.out.2.2, ?_⟩⟩
              have uf := updF_putObj (B := w5.heap.size) _ D _ (.deferred none) hD HF.out.2.2 rfl
              have cr := (uf.row HF.out.2.1 (by simp)).cell 0
              exact ⟨.bool true, by simp at cr; simp [results, Try.results5, go_sem, cr], rfl, uf.upd HF.out.1 hlw (by simp)⟩
            | some ad =>
              obtain ⟨ba, oa, sa⟩ := ad
              have hsp : sa = none ∨ L.length = 0 := by
                by_cases hL : 0 < L.length
                · obtain ⟨b', o', e, _⟩ := HV6.out.block hL
                  cases e
                  exact .inl rfl
                · exact .inr (by omega)
              have hsn : sa = none := by
                rcases (H7.out.1.own).2 with ⟨h8, _⟩ | ⟨g8, c8, cur8, h8, _⟩
                · cases h8
                · simp only [Value.slice.injEq, Option.some.injEq, Addr.mk.injEq] at h8
                  exact h8.1.2.2
              subst hsn
              have hpz : (¬ capl = k ∧ (if capl = k then some (⟨ba, oa, none⟩ : Addr) else some ⟨ba, oa + k, none⟩) = some ⟨ba, oa + k, none⟩) ∨ (capl = k ∧ (if capl = k then some (⟨ba, oa, none⟩ : Addr) else some ⟨ba, oa + k, none⟩) = some ⟨ba, oa, none⟩) := by
                by_cases e : capl = k
                · exact .inr ⟨e, if_pos e⟩
                · exact .inl ⟨e, if_neg e⟩
              have lsv := HV6.out.slice2 (lo := k) (hi := L.length) (k := capl - k) hck2 (Nat.le_refl _) hpz rfl
              have hlk : ((L.drop k).take (L.length - k)) = L.drop k := List.take_of_length_le (by rw [List.length_drop]; omega)
              rw [hlk] at lsv
              have ls := lsv.lst
              rw [List.length_drop] at ls
              rw [HDROP.out] at ls
              by_cases hck : capl = k
              · rw [if_pos hck] at ls
                have hcmT : (capl = k) = True := eq_true hck
                have LS := Lib.hid ls
                clear hsp lsv hlk ls hpz hck hle6 HV6 HLN HDROP
                go_wp2_with fail
                refine (first_yes y0 okb _ _ w7 LS.out HFF.out).mono ?_
                rintro e w8 ⟨rfl, rfl⟩
                clear LS
                go_wp2_with fail
                refine (awake_any _).mono ?_
                rintro e w9 ⟨rfl, U9⟩
                obtain ⟨D6, U6, hK6⟩ := H7.out
                obtain ⟨tr, hre⟩ := D6.re
                have r9 := hre.upd U9 (by simp)
                have c9 := r9.cell 0
                have f9 := r9.free 0
                simp only [List.getElem?_cons_zero] at c9
                have U10 : Upd [] w (w9.setCell ⟨bre, 0, none⟩ (.bool true)) := (U6.trans U9).setCell_new (p := ⟨bre, 0, none⟩) (by have := HBS.out; show w.heap.size ≤ bre; omega) _
                have r10 := r9.setCell_same 0 (.bool true)
                have hK9 := ((U9.block D (Array.getElem?_eq_some_iff.1 hK6).1 (by simp)).trans hK6)
                have hK10 : (w9.setCell ⟨bre, 0, none⟩ (.bool true)).heap[D]? = some (.deferred (some [])) := (Below.heap_setCell _ _ _ _ (by have := HBS.out; have := HQ.out; have := HBK.out; have := HBL.out; show D ≠ bre; omega)).trans hK9
                have HF := Lib.hid (And.intro U10 (And.intro r10 hK10))
                clear U9 D6 U6 hK6 hre r9 U10 r10 hK9 hK10
                go_wp2_with fail
                refine ⟨by simp, .inl ⟨_, _, rfl, run_takeDeferred HF.out.2.2, ?_⟩⟩
                have uf := updF_putObj (B := w5.heap.size) _ D _ (.deferred none) hD HF.out.2.2 rfl
                have cr := (uf.row HF.out.2.1 (by simp)).cell 0
                exact ⟨.bool true, by simp at cr; simp [results, Try.results5, go_sem, cr], rfl, uf.upd HF.out.1 hlw (by simp)⟩
              · rw [if_neg hck] at ls
                have LS := Lib.hid ls
                clear hsp lsv hlk ls hpz hle6 HV6 HLN HDROP
                go_wp2_with fail
                refine (first_yes y0 okb _ _ w7 LS.out HFF.out).mono ?_
                rintro e w8 ⟨rfl, rfl⟩
                clear LS
                go_wp2_with fail
                refine (awake_any _).mono ?_
                rintro e w9 ⟨rfl, U9⟩
                obtain ⟨D6, U6, hK6⟩ := H7.out
                obtain ⟨tr, hre⟩ := D6.re
                have r9 := hre.upd U9 (by simp)
                have c9 := r9.cell 0
                have f9 := r9.free 0
                simp only [List.getElem?_cons_zero] at c9
                have U10 : Upd [] w (w9.setCell ⟨bre, 0, none⟩ (.bool true)) := (U6.trans U9).setCell_new (p := ⟨bre, 0, none⟩) (by have := HBS.out; show w.heap.size ≤ bre; omega) _
                have r10 := r9.setCell_same 0 (.bool true)
                have hK9 := ((U9.block D (Array.getElem?_eq_some_iff.1 hK6).1 (by simp)).trans hK6)
                have hK10 : (w9.setCell ⟨bre, 0, none⟩ (.bool true)).heap[D]? = some (.deferred (some [])) := (Below.heap_setCell _ _ _ _ (by have := HBS.out; have := HQ.out; have := HBK.out; have := HBL.out; show D ≠ bre; omega)).trans hK9
                have HF := Lib.hid (And.intro U10 (And.intro r10 hK10))
                clear U9 D6 U6 hK6 hre r9 U10 r10 hK9 hK10
                go_wp2_with fail
                refine ⟨by simp, .inl ⟨_, _, rfl, run_takeDeferred HF.out.2.2, ?_⟩⟩
                have uf := updF_putObj (B := w5.heap.size) _ D _ (.deferred none) hD HF.out.2.2 rfl
                have cr := (uf.row HF.out.2.1 (by simp)).cell 0
                exact ⟨.bool true, by simp at cr; simp [results, Try.results5, go_sem, cr], rfl, uf.upd HF.out.1 hlw (by simp)⟩
          · have q1 : ((k : Int) != stop) = true := by simp [hks]
            have q2 : ((k : Int) != (L.length : Int)) = false := by rw [← hkL]; simp
            clear hks hkL
            go_wp2_with fail
            go_quiet ((first | (go_at_call 13; exact Calls.quiet_of_same (len_q false h vv ys' _ (HHA.out.drewN _))) | (go_at_call 11; exact Calls.quiet_of (check_q false h vv ys' _ (HHA.out.drewN _)))))
            have ud : Upd [] W (W.drewN nq) := (Upd.refl [] W).drewN nq
            have D6 := HD1.out.upd ud (by simp) (by simp)
            have H6 := HHA.out.drewN nq
            have U6 := HH2.out.trans ud
            have hK6 : (W.drewN nq).heap[D]? = some (.deferred (some [])) := HKK.out
            have hv6 := HVL.out.upd ud
            clear ck cst cl hck hne ud HD1 HHA HH2 HKK HVL q1 q2
            generalize W.drewN nq = W6 at D6 H6 U6 hK6 hv6 ⊢
            have ck : W6.cell? ⟨bkk, 0, none⟩ = some (.int .i64 k) := D6.k_.cell 0
            have cl : W6.cell? ⟨bl, 0, none⟩ = some (.slice pl L.length capl) := D6.l_.cell 0
            go_wp2_with fail
            refine (first_any false h vv ys' W6 H6).mono ?_
            rintro e w7 ⟨rfl, rfl⟩
            generalize nth ys' 0 = y0 at HFF ⊢
            generalize decide (0 < ys'.length) = okb at HFF ⊢
            have hle6 := hv6.le
            have a1 : (k : Int) ≤ (L.length : Int) := by omega
            have a2 : (L.length : Int) ≤ (capl : Int) := by omega
            have H7 := Lib.hid (And.intro D6 (And.intro U6 hK6))
            have HV6 := Lib.hid hv6
            clear D6 U6 hK6 H6 hv6
            cases pl with
            | none =>
              have hc0 := HV6.out.nil rfl
              have hL0 : L.length = 0 := by omega
              have hk0 : k = 0 := by omega
              have hLe : L = [] := List.eq_nil_of_length_eq_zero hL0
              have ls : Lst w7 (.slice none 0 0) (L.drop k) := by
                rw [hLe, List.drop_nil]
                exact (⟨Nat.le_refl _, Nat.zero_le _, fun _ => rfl, fun i x hx => by simp at hx⟩ : View w7 none 0 []).lst
              rw [HDROP.out] at ls
              have cl0 : w7.cell? ⟨bl, 0, none⟩ = some (.slice none 0 0) := by rw [cl, hL0, hc0]
              have ck0 : w7.cell? ⟨bkk, 0, none⟩ = some (.int .i64 0) := by rw [ck, hk0]; rfl
              have LS := Lib.hid ls
              clear hc0 hL0 hk0 hLe ls cl ck a1 a2 hle6 hck2 HV6 HLN HDROP
              go_wp2_with fail
              refine (first_yes y0 okb _ _ w7 LS.out HFF.out).mono ?_
              rintro e w8 ⟨rfl, rfl⟩
              clear LS
              go_wp2_with fail
              refine (awake_any _).mono ?_
              rintro e w9 ⟨rfl, U9⟩
              obtain ⟨D6, U6, hK6⟩ := H7.out
              obtain ⟨tr, hre⟩ := D6.re
              have r9 := hre.upd U9 (by simp)
              have c9 := r9.cell 0
              have f9 := r9.free 0
              simp only [List.getElem?_cons_zero] at c9
              have U10 : Upd [] w (w9.setCell ⟨bre, 0, none⟩ (.bool true)) := (U6.trans U9).setCell_new (p := ⟨bre, 0, none⟩) (by have := HBS.out; show w.heap.size ≤ bre; omega) _
              have r10 := r9.setCell_same 0 (.bool true)
              have hK9 := ((U9.block D (Array.getElem?_eq_some_iff.1 hK6).1 (by simp)).trans hK6)
              have hK10 : (w9.setCell ⟨bre, 0, none⟩ (.bool true)).heap[D]? = some (.deferred (some [])) := (Below.heap_setCell _ _ _ _ (by have := HBS.out; have := HQ.out; have := HBK.out; have := HBL.out; show D ≠ bre; omega)).trans hK9
              have HF := Lib.hid (And.intro U10 (And.intro r10 hK10))
              clear U9 D6 U6 hK6 hre r9 U10 r10 hK9 hK10
              go_wp2_with fail
              refine ⟨by simp, .inl ⟨_, _, rfl, run_takeDeferred HF.out.2.2, ?_⟩⟩
              have uf := updF_putObj (B := w5.heap.size) _ D _ (.deferred none) hD HF.out.2.2 rfl
              have cr := (uf.row HF.out.2.1 (by simp)).cell 0
              exact ⟨.bool true, by simp at cr; simp [results, Try.results5, go_sem, cr], rfl, uf.upd HF.out.1 hlw (by simp)⟩
            | some ad =>
              obtain ⟨ba, oa, sa⟩ := ad
              have hsp : sa = none ∨ L.length = 0 := by
                by_cases hL : 0 < L.length
                · obtain ⟨b', o', e, _⟩ := HV6.out.block hL
                  cases e
                  exact .inl rfl
                · exact .inr (by omega)
              have hsn : sa = none := by
                rcases (H7.out.1.own).2 with ⟨h8, _⟩ | ⟨g8, c8, cur8, h8, _⟩
                · cases h8
                · simp only [Value.slice.injEq, Option.some.injEq, Addr.mk.injEq] at h8
                  exact h8.1.2.2
              subst hsn
              have hpz : (¬ capl = k ∧ (if capl = k then some (⟨ba, oa, none⟩ : Addr) else some ⟨ba, oa + k, none⟩) = some ⟨ba, oa + k, none⟩) ∨ (capl = k ∧ (if capl = k then some (⟨ba, oa, none⟩ : Addr) else some ⟨ba, oa + k, none⟩) = some ⟨ba, oa, none⟩) := by
                by_cases e : capl = k
                · exact .inr ⟨e, if_pos e⟩
                · exact .inl ⟨e, if_neg e⟩
              have lsv := HV6.out.slice2 (lo := k) (hi := L.length) (k := capl - k) hck2 (Nat.le_refl _) hpz rfl
              have hlk : ((L.drop k).take (L.length - k)) = L.drop k := List.take_of_length_le (by rw [List.length_drop]; omega)
              rw [hlk] at lsv
              have ls := lsv.lst
              rw [List.length_drop] at ls
              rw [HDROP.out] at ls
              by_cases hck : capl = k
              · rw [if_pos hck] at ls
                have hcmT : (capl = k) = True := eq_true hck
                have LS := Lib.hid ls
                clear hsp lsv hlk ls hpz hck hle6 HV6 HLN HDROP
                go_wp2_with fail
                refine (first_yes y0 okb _ _ w7 LS.out HFF.out).mono ?_
                rintro e w8 ⟨rfl, rfl⟩
                clear LS
                go_wp2_with fail
                refine (awake_any _).mono ?_
                rintro e w9 ⟨rfl, U9⟩
                obtain ⟨D6, U6, hK6⟩ := H7.out
                obtain ⟨tr, hre⟩ := D6.re
                have r9 := hre.upd U9 (by simp)
                have c9 := r9.cell 0
                have f9 := r9.free 0
                simp only [List.getElem?_cons_zero] at c9
                have U10 : Upd [] w (w9.setCell ⟨bre, 0, none⟩ (.bool true)) := (U6.trans U9).setCell_new (p := ⟨bre, 0, none⟩) (by have := HBS.out; show w.heap.size ≤ bre; omega) _
                have r10 := r9.setCell_same 0 (.bool true)
                have hK9 := ((U9.block D (Array.getElem?_eq_some_iff.1 hK6).1 (by simp)).trans hK6)
                have hK10 : (w9.setCell ⟨bre, 0, none⟩ (.bool true)).heap[D]? = some (.deferred (some [])) := (Below.heap_setCell _ _ _ _ (by have := HBS.out; have := HQ.out; have := HBK.out; have := HBL.out; show D ≠ bre; omega)).trans hK9
                have HF := Lib.hid (And.intro U10 (And.intro r10 hK10))
                clear U9 D6 U6 hK6 hre r9 U10 r10 hK9 hK10
                go_wp2_with fail
                refine ⟨by simp, .inl ⟨_, _, rfl, run_takeDeferred HF.out.2.2, ?_⟩⟩
                have uf := updF_putObj (B := w5.heap.size) _ D _ (.deferred none) hD HF.out.2.2 rfl
                have cr := (uf.row HF.out.2.1 (by simp)).cell 0
                exact ⟨.bool true, by simp at cr; simp [results, Try.results5, go_sem, cr], rfl, uf.upd HF.out.1 hlw (by simp)⟩
              · rw [if_neg hck] at ls
                have LS := Lib.hid ls
                clear hsp lsv hlk ls hpz hle6 HV6 HLN HDROP
                go_wp2_with fail
                refine (first_yes y0 okb _ _ w7 LS.out HFF.out).mono ?_
                rintro e w8 ⟨rfl, rfl⟩
                clear LS
                go_wp2_with fail
                refine (awake_any _).mono ?_
                rintro e w9 ⟨rfl, U9⟩
                obtain ⟨D6, U6, hK6⟩ := H7.out
                obtain ⟨tr, hre⟩ := D6.re
                have r9 := hre.upd U9 (by simp)
                have c9 := r9.cell 0
                have f9 := r9.free 0
                simp only [List.getElem?_cons_zero] at c9
                have U10 : Upd [] w (w9.setCell ⟨bre, 0, none⟩ (.bool true)) := (U6.trans U9).setCell_new (p := ⟨bre, 0, none⟩) (by have := HBS.out; show w.heap.size ≤ bre; omega) _
                have r10 := r9.setCell_same 0 (.bool true)
                have hK9 := ((U9.block D (Array.getElem?_eq_some_iff.1 hK6).1 (by simp)).trans hK6)
                have hK10 : (w9.setCell ⟨bre, 0, none⟩ (.bool true)).heap[D]? = some (.deferred (some [])) := (Below.heap_setCell _ _ _ _ (by have := HBS.out; have := HQ.out; have := HBK.out; have := HBL.out; show D ≠ bre; omega)).trans hK9
                have HF := Lib.hid (And.intro U10 (And.intro r10 hK10))
                clear U9 D6 U6 hK6 hre r9 U10 r10 hK9 hK10
                go_wp2_with fail
                refine ⟨by simp, .inl ⟨_, _, rfl, run_takeDeferred HF.out.2.2, ?_⟩⟩
                have uf := updF_putObj (B := w5.heap.size) _ D _ (.deferred none) hD HF.out.2.2 rfl
                have cr := (uf.row HF.out.2.1 (by simp)).cell 0
                exact ⟨.bool true, by simp at cr; simp [results, Try.results5, go_sem, cr], rfl, uf.upd HF.out.1 hlw (by simp)⟩
        case stop =>
          rintro D c pre W hD ⟨ys', vv, HA, hvv, hhp, hdr⟩ ⟨rfl, h1, h2, h4⟩ hK
          have hpl : (putAll ys).length = xs.length := by rw [putAll_len]; exact HHP.out.2.length_eq
          have hLL : L = putAll ys := by
            rw [HL.out]
            exact rises_unique (putAll_spec xs).2 (putAll_spec ys).2 ((putAll_spec xs).1.trans (HHP.out.2.symm.trans (putAll_spec ys).1.symm))
          have hLw : L = pre ++ putAll ys' := by rw [hLL]; exact hdr.whole
          have hyl : (putAll ys').length = ys'.length := putAll_len ys'
          have hLn : L.length = pre.length + ys'.length := by rw [hLw, List.length_append, hyl]
          have hdrop : L.drop pre.length = putAll ys' := by rw [hLw, List.drop_append_of_le_length (Nat.le_refl _), List.drop_length, List.nil_append]
          have hff : FirstOk (nth ys' 0) (decide (0 < ys'.length)) (putAll ys') := by
            have hsp := putAll_spec ys'
            refine ⟨fun e => ?_, fun hx => ⟨decide_eq_true (by omega), ?_⟩⟩
            · have e2 : ys' = [] := List.eq_nil_of_length_eq_zero (by rw [← hyl, e]; rfl)
              rw [e2]
              exact ⟨rfl, rfl⟩
            · cases hpp : putAll ys' with
              | nil => rw [hpp] at hx; simp at hx
              | cons a r => rw [hpp] at hsp; exact heap_first hhp hsp.1.symm hsp.2
          have hck : heapB false ys' = true := heapB_iff.2 hhp
          generalize hk : pre.length = k at *
          have hne : ((ys'.length : Int) != (L.length : Int) - (k : Int)) = false := by
            have : (ys'.length : Int) = (L.length : Int) - (k : Int) := by omega
            rw [this]; simp
          have ck : W.cell? ⟨bkk, 0, none⟩ = some (.int .i64 k) := h1.k_.cell 0
          have cst : W.cell? ⟨bst, 0, none⟩ = some (.int .i64 stop) := h1.st.cell 0
          have cl : W.cell? ⟨bl, 0, none⟩ = some lv := h1.l_.cell 0
          obtain ⟨pl, capl, rfl, hvl⟩ := h1.own.view
          have hck2 : k ≤ L.length := by omega
          have hLb : L.length ≤ 150 := by omega
          have HFF := Lib.hid hff
          have HDROP := Lib.hid hdrop
          have HVL := Lib.hid hvl
          have HD1 := Lib.hid h1
          have HH2 := Lib.hid h2
          have HHA := Lib.hid HA
          have HLN := Lib.hid hLn
          have HKK := Lib.hid hK
          clear hpl hLL hLw hyl hLn hdrop hff hk hLl hvl h1 h2 HA hdr hhp hvv hK
          have q1 : ((k : Int) != stop) = false := by simp [h4]
          clear h4
          gi_wp2_with fail
          go_wp2_with fail
          go_quiet ((first | (go_at_call 13; exact Calls.quiet_of_same (len_q false h vv ys' _ (HHA.out.drewN _))) | (go_at_call 11; exact Calls.quiet_of (check_q false h vv ys' _ (HHA.out.drewN _)))))
          have ud : Upd [] W (W.drewN nq) := (Upd.refl [] W).drewN nq
          have D6 := HD1.out.upd ud (by simp) (by simp)
          have H6 := HHA.out.drewN nq
          have U6 := HH2.out.trans ud
          have hK6 : (W.drewN nq).heap[D]? = some (.deferred (some [])) := HKK.out
          have hv6 := HVL.out.upd ud
          clear ck cst cl hck hne ud HD1 HHA HH2 HKK HVL q1
          generalize W.drewN nq = W6 at D6 H6 U6 hK6 hv6 ⊢
          have ck : W6.cell? ⟨bkk, 0, none⟩ = some (.int .i64 k) := D6.k_.cell 0
          have cl : W6.cell? ⟨bl, 0, none⟩ = some (.slice pl L.length capl) := D6.l_.cell 0
          go_wp2_with fail
          refine (first_any false h vv ys' W6 H6).mono ?_
          rintro e w7 ⟨rfl, rfl⟩
          generalize nth ys' 0 = y0 at HFF ⊢
          generalize decide (0 < ys'.length) = okb at HFF ⊢
          have hle6 := hv6.le
          have a1 : (k : Int) ≤ (L.length : Int) := by omega
          have a2 : (L.length : Int) ≤ (capl : Int) := by omega
          have H7 := Lib.hid (And.intro D6 (And.intro U6 hK6))
          have HV6 := Lib.hid hv6
          clear D6 U6 hK6 H6 hv6
          cases pl with
          | none =>
            have hc0 := HV6.out.nil rfl
            have hL0 : L.length = 0 := by omega
            have hk0 : k = 0 := by omega
            have hLe : L = [] := List.eq_nil_of_length_eq_zero hL0
            have ls : Lst w7 (.slice none 0 0) (L.drop k) := by
              rw [hLe, List.drop_nil]
              exact (⟨Nat.le_refl _, Nat.zero_le _, fun _ => rfl, fun i x hx => by simp at hx⟩ : View w7 none 0 []).lst
            rw [HDROP.out] at ls
            have cl0 : w7.cell? ⟨bl, 0, none⟩ = some (.slice none 0 0) := by rw [cl, hL0, hc0]
            have ck0 : w7.cell? ⟨bkk, 0, none⟩ = some (.int .i64 0) := by rw [ck, hk0]; rfl
            have LS := Lib.hid ls
            clear hc0 hL0 hk0 hLe ls cl ck a1 a2 hle6 hck2 HV6 HLN HDROP
            go_wp2_with fail
            refine (first_yes y0 okb _ _ w7 LS.out HFF.out).mono ?_
            rintro e w8 ⟨rfl, rfl⟩
            clear LS
            go_wp2_with fail
            refine (awake_any _).mono ?_
            rintro e w9 ⟨rfl, U9⟩
            obtain ⟨D6, U6, hK6⟩ := H7.out
            obtain ⟨tr, hre⟩ := D6.re
            have r9 := hre.upd U9 (by simp)
            have c9 := r9.cell 0
            have f9 := r9.free 0
            simp only [List.getElem?_cons_zero] at c9
            have U10 : Upd [] w (w9.setCell ⟨bre, 0, none⟩ (.bool true)) := (U6.trans U9).setCell_new (p := ⟨bre, 0, none⟩) (by have := HBS.out; show w.heap.size ≤ bre; omega) _
            have r10 := r9.setCell_same 0 (.bool true)
            have hK9 := ((U9.block D (Array.getElem?_eq_some_iff.1 hK6).1 (by simp)).trans hK6)
            have hK10 : (w9.setCell ⟨bre, 0, none⟩ (.bool true)).heap[D]? = some (.deferred (some [])) := (Below.heap_setCell _ _ _ _ (by have := HBS.out; have := HQ.out; have := HBK.out; have := HBL.out; show D ≠ bre; omega)).trans hK9
            have HF := Lib.hid (And.intro U10 (And.intro r10 hK10))
            clear U9 D6 U6 hK6 hre r9 U10 r10 hK9 hK10
            go_wp2_with fail
            refine ⟨by simp, .inl ⟨_, _, rfl, run_takeDeferred HF.out.2.2, ?_⟩⟩
            have uf := updF_putObj (B := w5.heap.size) _ D _ (.deferred none) hD HF.out.2.2 rfl
            have cr := (uf.row HF.out.2.1 (by simp)).cell 0
            exact ⟨.bool true, by simp at cr; simp [results, Try.results5, go_sem, cr], rfl, uf.upd HF.out.1 hlw (by simp)⟩
          | some ad =>
            obtain ⟨ba, oa, sa⟩ := ad
            have hsp : sa = none ∨ L.length = 0 := by
              by_cases hL : 0 < L.length
              · obtain ⟨b', o', e, _⟩ := HV6.out.block hL
                cases e
                exact .inl rfl
              · exact .inr (by omega)
            have hsn : sa = none := by
              rcases (H7.out.1.own).2 with ⟨h8, _⟩ | ⟨g8, c8, cur8, h8, _⟩
              · cases h8
              · simp only [Value.slice.injEq, Option.some.injEq, Addr.mk.injEq] at h8
                exact h8.1.2.2
            subst hsn
            have hpz : (¬ capl = k ∧ (if capl = k then some (⟨ba, oa, none⟩ : Addr) else some ⟨ba, oa + k, none⟩) = some ⟨ba, oa + k, none⟩) ∨ (capl = k ∧ (if capl = k then some (⟨ba, oa, none⟩ : Addr) else some ⟨ba, oa + k, none⟩) = some ⟨ba, oa, none⟩) := by
              by_cases e : capl = k
              · exact .inr ⟨e, if_pos e⟩
              · exact .inl ⟨e, if_neg e⟩
            have lsv := HV6.out.slice2 (lo := k) (hi := L.length) (k := capl - k) hck2 (Nat.le_refl _) hpz rfl
            have hlk : ((L.drop k).take (L.length - k)) = L.drop k := List.take_of_length_le (by rw [List.length_drop]; omega)
            rw [hlk] at lsv
            have ls := lsv.lst
            rw [List.length_drop] at ls
            rw [HDROP.out] at ls
            by_cases hck : capl = k
            · rw [if_pos hck] at ls
              have hcmT : (capl = k) = True := eq_true hck
              have LS := Lib.hid ls
              clear hsp lsv hlk ls hpz hck hle6 HV6 HLN HDROP
              go_wp2_with fail
              refine (first_yes y0 okb _ _ w7 LS.out HFF.out).mono ?_
              rintro e w8 ⟨rfl, rfl⟩
              clear LS
              go_wp2_with fail
              refine (awake_any _).mono ?_
              rintro e w9 ⟨rfl, U9⟩
              obtain ⟨D6, U6, hK6⟩ := H7.out
              obtain ⟨tr, hre⟩ := D6.re
              have r9 := hre.upd U9 (by simp)
              have c9 := r9.cell 0
              have f9 := r9.free 0
              simp only [List.getElem?_cons_zero] at c9
              have U10 : Upd [] w (w9.setCell ⟨bre, 0, none⟩ (.bool true)) := (U6.trans U9).setCell_new (p := ⟨bre, 0, none⟩) (by have := HBS.out; show w.heap.size ≤ bre; omega) _
              have r10 := r9.setCell_same 0 (.bool true)
              have hK9 := ((U9.block D (Array.getElem?_eq_some_iff.1 hK6).1 (by simp)).trans hK6)
              have hK10 : (w9.setCell ⟨bre, 0, none⟩ (.bool true)).heap[D]? = some (.deferred (some [])) := (Below.heap_setCell _ _ _ _ (by have := HBS.out; have := HQ.out; have := HBK.out; have := HBL.out; show D ≠ bre; omega)).trans hK9
              have HF := Lib.hid (And.intro U10 (And.intro r10 hK10))
              clear U9 D6 U6 hK6 hre r9 U10 r10 hK9 hK10
              go_wp2_with fail
              refine ⟨by simp, .inl ⟨_, _, rfl, run_takeDeferred HF.out.2.2, ?_⟩⟩
              have uf := updF_putObj (B := w5.heap.size) _ D _ (.deferred none) hD HF.out.2.2 rfl
              have cr := (uf.row HF.out.2.1 (by simp)).cell 0
              exact ⟨.bool true, by simp at cr; simp [results, Try.results5, go_sem, cr], rfl, uf.upd HF.out.1 hlw (by simp)⟩
            · rw [if_neg hck] at ls
              have LS := Lib.hid ls
              clear hsp lsv hlk ls hpz hle6 HV6 HLN HDROP
              go_wp2_with fail
              refine (first_yes y0 okb _ _ w7 LS.out HFF.out).mono ?_
              rintro e w8 ⟨rfl, rfl⟩
              clear LS
              go_wp2_with fail
              refine (awake_any _).mono ?_
              rintro e w9 ⟨rfl, U9⟩
              obtain ⟨D6, U6, hK6⟩ := H7.out
              obtain ⟨tr, hre⟩ := D6.re
              have r9 := hre.upd U9 (by simp)
              have c9 := r9.cell 0
              have f9 := r9.free 0
              simp only [List.getElem?_cons_zero] at c9
              have U10 : Upd [] w (w9.setCell ⟨bre, 0, none⟩ (.bool true)) := (U6.trans U9).setCell_new (p := ⟨bre, 0, none⟩) (by have := HBS.out; show w.heap.size ≤ bre; omega) _
              have r10 := r9.setCell_same 0 (.bool true)
              have hK9 := ((U9.block D (Array.getElem?_eq_some_iff.1 hK6).1 (by simp)).trans hK6)
              have hK10 : (w9.setCell ⟨bre, 0, none⟩ (.bool true)).heap[D]? = some (.deferred (some [])) := (Below.heap_setCell _ _ _ _ (by have := HBS.out; have := HQ.out; have := HBK.out; have := HBL.out; show D ≠ bre; omega)).trans hK9
              have HF := Lib.hid (And.intro U10 (And.intro r10 hK10))
              clear U9 D6 U6 hK6 hre r9 U10 r10 hK9 hK10
              go_wp2_with fail
              refine ⟨by simp, .inl ⟨_, _, rfl, run_takeDeferred HF.out.2.2, ?_⟩⟩
              have uf := updF_putObj (B := w5.heap.size) _ D _ (.deferred none) hD HF.out.2.2 rfl
              have cr := (uf.row HF.out.2.1 (by simp)).cell 0
              exact ⟨.bool true, by simp at cr; simp [results, Try.results5, go_sem, cr], rfl, uf.upd HF.out.1 hlw (by simp)⟩

end Go.Proofs.Ytgeaboahccfdcaa
