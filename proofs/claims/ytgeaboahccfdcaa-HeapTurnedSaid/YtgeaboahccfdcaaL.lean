/- HeapTurned: the walk. -/
import Derived.Test.YtgeaboahccfdcaaK
namespace Go.Proofs.Ytgeaboahccfdcaa
open Go.RowKit
attribute [local go_sem] Oper.semAt_some

theorem new19 (v0 : Value) (xs : List Int) (w : World) (hx : Lst w v0 xs) (hl : xs.length ≤ 1000000) :
    Calls Try.prog 8 #[.func (.func 19) #[] #[], v0] w fun e w' => ∃ h v ys, e = .returned (.pointer (some ⟨h, 0, none⟩)) ∧ HeapAt w' true h v ys ∧ IsHeap true ys ∧ ys.Perm xs ∧ Upd [] w w' ∧ w.heap.size ≤ h ∧ ∀ k, v.ownBlock = some k → w.heap.size ≤ k :=
  new_any true v0 xs w hx hl

theorem lst_nil (w : World) : Lst w (.slice none 0 0) [] := ⟨none, 0, rfl, Nat.le_refl _, Nat.zero_le _, fun _ => rfl, fun i x hx => by simp at hx⟩

/-- the last one -/
def lastOf (pre : List Int) : Int := pre.getLast?.getD 0
theorem lastOf_snoc (pre : List Int) (y : Int) : lastOf (pre ++ [y]) = y := by simp [lastOf]
theorem Drained.falls {xs0 pre ys : List Int} {y : Int} (D : Drained true xs0 (pre ++ [y]) ys) (hp : 0 < pre.length) : y ≤ lastOf pre := by
  have h := D.rises
  rw [List.pairwise_append] at h
  have hl : lastOf pre ∈ pre := by
    unfold lastOf
    cases hg : pre.getLast? with
    | none => rw [List.getLast?_eq_none_iff] at hg; rw [hg] at hp; simp at hp
    | some a => exact List.mem_of_getLast? hg
  have := h.2.2 _ hl y (by simp)
  unfold kd at this
  simp at this
  omega

theorem Lows.drewn {X : List Nat} {B : Nat} {W W' : World} (h : Lows X B W W') : Lows X B W W'.drew := ⟨⟨h.toLow.os, h.toLow.tape, h.toLow.output, h.toLow.size, h.toLow.low⟩, h.rest⟩

set_option maxRecDepth 100000 in
set_option maxHeartbeats 1000000 in
theorem turned_all (v0 : Value) (xs : List Int) (w : World) (hx : Lst w v0 xs) : Calls Try.prog 6 #[v0] w fun e w' => e = .returned (.bool true) ∧ Upd [] w w' := by
  obtain ⟨p, c, rfl, hv⟩ := hx
  have rre0 := IsRow.new w [.bool false] 4
  have U0 : Upd [] w (w.alloc (.cells #[.bool false] 4)) := (Upd.refl [] w).alloc _
  have hz0 : (w.alloc (.cells #[.bool false] 4)).heap.size = w.heap.size + 1 := by simp
  by_cases hl : 150 < xs.length
  · clear hz0
    go_enter Try.func6, Try.ntmps6
    go_wp2_with fail
    generalize w.alloc (.cells #[.bool false] 4) = w1 at rre0 U0 ⊢
    refine (awake_any _).mono ?_
    rintro e w9 ⟨rfl, U9⟩
    have r9 := rre0.upd U9 (by simp)
    have c9 := r9.cell 0
    have f9 := r9.free 0
    have c10 := (r9.setCell_same 0 (.bool true)).cell 0
    simp only [List.getElem?_cons_zero, List.set_cons_zero] at c9 c10
    have U10 := (U0.trans U9).setCell_new (p := ⟨w.heap.size, 0, none⟩) (Nat.le_refl _) (.bool true)
    clear rre0 r9 U0 U9
    go_wp2_with fail
    exact bodyPost_ret (v := .bool true) (by simp [results, Try.results6, go_sem, c10]) rfl ⟨rfl, U10⟩
  · have hn : xs.length ≤ 150 := by omega
    have HV := Lib.hid hv
    clear hv
    refine (callsIn_wide (n := 3)).1 ?_
    refine callsIn_of_wp_marks Try.func6 rfl trivial ?_ rfl
    refine wpIn_wide.2 ?_
    simp only [Try.ntmps6, List.size_toArray, List.length_cons, List.length_nil, Nat.reduceAdd, Nat.reduceSub, Array.replicate_succ, Array.replicate_zero, List.push_toArray, List.append_toArray, List.nil_append, List.cons_append]
    go_wp2_with fail
    obtain ⟨bre, hbre⟩ : ∃ z, z = w.heap.size := ⟨_, rfl⟩
    rw [← hbre] at rre0
    rw [← hbre]
    have HBS := Lib.hid hbre
    clear hbre
    generalize w.alloc (.cells #[.bool false] 4) = w0 at rre0 U0 hz0 ⊢
    refine (new19 _ [] w0 (lst_nil w0) (by simp)).mono ?_
    rintro e w1 ⟨h, v1, ys1, rfl, H1, hh1, hp1, U1, hb1, hg1⟩
    have hS := bk_high hb1 hg1
    have HF1 := Lib.hid (And.intro H1 (And.intro hh1 (And.intro hp1 (And.intro hS U1))))
    have hz1 := U1.size
    have HRE0 := Lib.hid rre0
    have HU0 := Lib.hid U0
    clear hS hb1 hg1 hh1 hp1 rre0 U0 U1 H1
    go_wp2_with fail
    go_loopw [18] (fun u18 wr => ∃ (j : Nat) (v : Value) (ys : List Int), j ≤ xs.length ∧ u18 = .int .i64 j ∧ HeapAt wr true h v ys ∧ IsHeap true ys ∧ ys.Perm (xs.take j) ∧ (∀ k, k ∈ bk h v → w0.heap.size ≤ k) ∧ Upd [] w0 wr) (fun u18 _ => xs.length - (intOf u18).toNat)
    case atStart => exact ⟨0, _, _, Nat.zero_le _, rfl, HF1.out.1, HF1.out.2.1, by simpa using HF1.out.2.2.1, HF1.out.2.2.2.1, HF1.out.2.2.2.2⟩
    case round =>
      clear HF1
      obtain ⟨j, v, ys, hj, rfl, H, hh, hp, hb, U3⟩ := hrel
      have hyl : ys.length = j := by rw [hp.length_eq, List.length_take]; omega
      have U0w : Upd [] w wr := HU0.out.trans U3
      by_cases hjl : j < xs.length
      · obtain ⟨a, ha⟩ : ∃ a, xs[j]? = some a := ⟨xs[j], List.getElem?_eq_getElem hjl⟩
        obtain ⟨bx, ox, rfl, hbx, hcx⟩ := (HV.out.upd U0w).cells j a ha
        have ca := hcx j a ha
        have htk : xs.take (j + 1) = xs.take j ++ [a] := by rw [List.take_add_one, ha]; rfl
        have HTK := Lib.hid htk
        have HB := Lib.hid hb
        have HU3 := Lib.hid U3
        have HP := Lib.hid hp
        clear hcx ha htk hb U3 U0w hp
        go_wp2_with fail
        refine (push_any true h v ys a wr H hh (by omega)).mono ?_
        rintro e w3 ⟨⟨r3, rfl⟩, ⟨v3, ys3, H3, hh3, hp3, hm3⟩, U4⟩
        have hb3 := bk_high_moved HB.out hm3 HU3.out.size
        have U5 : Upd [] w0 w3 := ((HU3.out.mono (S' := bk h v) (by simp)).trans U4).shrink fun k hk hlt => by
          have := HB.out k hk
          omega
        have hp4 : ys3.Perm (xs.take (j + 1)) := by
          rw [HTK.out]
          exact (hp3.trans (List.Perm.cons a HP.out)).trans (by simpa using (List.perm_append_comm (l₁ := [a]) (l₂ := xs.take j)))
        have HF := Lib.hid (And.intro H3 (And.intro hh3 (And.intro hp4 (And.intro hb3 U5))))
        clear H hh H3 hh3 hp3 hm3 U4 hb3 U5 hp4 ca hyl
        go_wp2_with fail
        go_roundw
        case rel => exact ⟨j + 1, v3, ys3, hjl, by go_num, HF.out.1, HF.out.2.1, HF.out.2.2.1, HF.out.2.2.2.1, HF.out.2.2.2.2⟩
        case measure => simp [intOf]; omega
      · have hje : j = xs.length := by omega
        subst hje
        have rre3 : IsRow wr bre 4 [.bool false] := HRE0.out.upd U3 (by simp)
        have hle3 := U3.size
        have HB := Lib.hid hb
        have hyx : ys.length = xs.length := hyl
        have HYX := Lib.hid hyx
        clear hb U3 hp hyl hyx hjl hj
        go_wp2_with fail
        obtain ⟨bla, hbla⟩ : ∃ z, z = wr.heap.size := ⟨_, rfl⟩
        obtain ⟨bct, hbct⟩ : ∃ z, z = wr.heap.size + 1 := ⟨_, rfl⟩
        have rla := (IsRow.new wr [.int .i64 0] 3).alloc (.cells #[.int .i64 0] 3)
        have rct := IsRow.new (wr.alloc (.cells #[.int .i64 0] 3)) [.int .i64 0] 3
        simp only [World.size_alloc] at rct
        rw [← hbla] at rla
        rw [← hbct] at rct
        rw [← hbct, ← hbla]
        have U6 : Upd [] wr ((wr.alloc (.cells #[.int .i64 0] 3)).alloc (.cells #[.int .i64 0] 3)) := ((Upd.refl [] wr).alloc _).alloc _
        have rre4 := rre3.upd U6 (by simp)
        have H4 := H.upd U6 (by simp)
        have HLT := Lib.hid (fun z hz => Nat.lt_of_lt_of_eq (H.lt z hz) hbla.symm)
        have U7 := U0w.trans U6
        have hz4 : ((wr.alloc (.cells #[.int .i64 0] 3)).alloc (.cells #[.int .i64 0] 3)).heap.size = bct + 1 := by simp [hbct]
        have HBC := Lib.hid (show bct = bla + 1 by omega)
        have HBL := Lib.hid (show w0.heap.size ≤ bla by have := hle3; omega)
        clear hbla hbct rre3 H U6 U0w
        generalize (wr.alloc (.cells #[.int .i64 0] 3)).alloc (.cells #[.int .i64 0] 3) = w4 at rla rct rre4 H4 U7 hz4 ⊢
        refine (drain_any h w4).mono ?_
        rintro e w5 ⟨rfl, rfl⟩
        obtain ⟨q, hq⟩ : ∃ z, z = w4.heap.size := ⟨_, rfl⟩
        have rq := IsRow.new w4 [.pointer (some ⟨h, 0, none⟩)] 25
        rw [← hq] at rq ⊢
        have U8 : Upd [] w4 (w4.alloc (.cells #[.pointer (some ⟨h, 0, none⟩)] 25)) := (Upd.refl [] w4).alloc _
        have rla5 := rla.upd U8 (by simp)
        have rct5 := rct.upd U8 (by simp)
        have rre5 := rre4.upd U8 (by simp)
        have H5 := H4.upd U8 (by simp)
        have U9 := U7.trans U8
        have hz5 : q < (w4.alloc (.cells #[.pointer (some ⟨h, 0, none⟩)] 25)).heap.size := by rw [hq]; simp
        have HQ := Lib.hid (show q = bct + 1 by omega)
        clear rla rct rre4 H4 U7 U8 hq hz4
        generalize w4.alloc (.cells #[.pointer (some ⟨h, 0, none⟩)] 25) = w5 at rq rla5 rct5 rre5 H5 U9 hz5 ⊢
        have hnb : ∀ z, z ∈ [bre, bla, bct, q] → z ∉ bk h v := by
          intro z hz hb
          have g1 := HB.out z hb
          have g2 := HLT.out z hb
          have g3 := HBS.out
          have g4 := HBC.out
          have g5 := HQ.out
          simp only [List.mem_cons, List.mem_nil_iff, or_false] at hz
          omega
        have HNB := Lib.hid hnb
        clear hnb
        go_wp2_with fail
        have hlw : w.heap.size ≤ w5.heap.size := U9.size
        have hwT : ∀ z, z ∈ bk h v → w.heap.size ≤ z := fun z hz => by have := HB.out z hz; omega
        refine (wpIn_wide (n := 3)).1 ?_
        refine wp_range2' (gf := 28) (lb := #[.pointer (some ⟨q, 0, none⟩)]) rfl (enters_of Try.func28 (by kernel_rfl) rfl)
          (drain_iter 2 true h q v ys [bla, bct] w5 H5 hh rq (HNB.out q (by simp)) (fun z hz hx => by
            rcases List.mem_cons.1 hz with e | e
            · simp only [List.mem_cons, List.mem_nil_iff, or_false] at hx
              have := HQ.out
              have := HBC.out
              omega
            · exact HNB.out z (by simp only [List.mem_cons, List.mem_nil_iff, or_false] at hx ⊢; omega) e)) (fun _ => rfl) (fun z hz => by have := HLT.out z hz; have := HBC.out; have := HQ.out; omega)
          (fun pre W => IsRow W bre 4 [.bool false] ∧ IsRow W bla 3 [.int .i64 (lastOf pre)] ∧ IsRow W bct 3 [.int .i64 pre.length] ∧ Upd [] w W)
          (fun _ _ _ => False)
          ?hI ?hIx ?hAdm ?hS ?hSp ?h0 (fun t y => (t.setIfInBounds 28 (.int .i64 y)).setIfInBounds 8 (.int .i64 y)) ?assign ?body ?done ?stop
        case hI =>
          rintro pre W W' ⟨h1, h2, h3, h4⟩ u
          exact ⟨u.row h1 (HNB.out _ (by simp)), u.row h2 (HNB.out _ (by simp)), u.row h3 (HNB.out _ (by simp)), u.upd h4 hlw (fun z hz hlt => by have := hwT z hz; omega)⟩
        case hIx =>
          intro _ _ _ _ hf
          exact hf.elim
        case hAdm =>
          rintro pre y W W' ⟨ys', D⟩ u
          exact ⟨ys', D.keptF u⟩
        case hS =>
          intro pre W W' D u
          exact D.keptF u
        case hSp =>
          rintro pre W W' ⟨ys', D⟩ u
          exact ⟨ys', D.keptF u⟩
        case h0 => exact ⟨rre5, rla5, rct5, U9⟩
        case assign =>
          intro l y W K hK
          gi_wp2
          exact hK
        case stop =>
          intro D c pre W hD _ hf hK
          exact hf.elim
        case done =>
          rintro D pre W hD ⟨vv, HA, hvv, hhp, hdr⟩ ⟨h1, h2, h3, h4⟩ hK
          have hpl : pre.length = xs.length := by
            have := hdr.perm.length_eq
            rw [List.append_nil] at this
            rw [this, HYX.out]
          rw [hpl] at h3
          have cct : W.cell? ⟨bct, 0, none⟩ = some (.int .i64 xs.length) := h3.cell 0
          have HHA := Lib.hid HA
          have HK := Lib.hid hK
          have H1 := Lib.hid h1
          have H4 := Lib.hid h4
          clear HA hvv hhp hdr h1 h2 h3 h4 hK hpl
          go_wp2_with fail
          refine (len_any true h vv [] W HHA.out).mono ?_
          rintro e w7 ⟨rfl, rfl⟩
          have e0 : Ending.returned (.int .i64 (([] : List Int).length : Int)) = .returned (.int .i64 0) := rfl
          rw [e0]
          go_wp2_with fail
          refine (awake_any _).mono ?_
          rintro e w9 ⟨rfl, U9'⟩
          have r9 := H1.out.upd U9' (by simp)
          have c9 := r9.cell 0
          have f9 := r9.free 0
          simp only [List.getElem?_cons_zero] at c9
          have U10 : Upd [] w (w9.setCell ⟨bre, 0, none⟩ (.bool true)) := (H4.out.trans U9').setCell_new (p := ⟨bre, 0, none⟩) (by have := HBS.out; show w.heap.size ≤ bre; omega) _
          have r10 := r9.setCell_same 0 (.bool true)
          have hK9 := ((U9'.block D (Array.getElem?_eq_some_iff.1 HK.out).1 (by simp)).trans HK.out)
          have hK10 : (w9.setCell ⟨bre, 0, none⟩ (.bool true)).heap[D]? = some (.deferred (some [])) := (Below.heap_setCell _ _ _ _ (by have := HBS.out; have := HQ.out; have := HBC.out; have := HBL.out; show D ≠ bre; omega)).trans hK9
          have HF := Lib.hid (And.intro U10 (And.intro r10 hK10))
          clear U9' r9 U10 r10 hK9 hK10 cct
          go_wp2_with fail
          refine ⟨by simp, .inl ⟨_, _, rfl, run_takeDeferred HF.out.2.2, ?_⟩⟩
          have uf := updF_putObj (B := w5.heap.size) _ D _ (.deferred none) hD HF.out.2.2 rfl
          have cr := (uf.row HF.out.2.1 (by simp)).cell 0
          exact ⟨.bool true, by simp at cr; simp [results, Try.results6, go_sem, cr], rfl, uf.upd HF.out.1 hlw (by simp)⟩
        case body =>
          rintro l pre y W ⟨h1, h2, h3, h4⟩ ⟨ys', vv, HA, hvv, hhp, hdr⟩
          dsimp only
          have hpc : pre.length ≤ 1000 := by
            have := hdr.perm.length_eq
            rw [List.length_append, List.length_append, HYX.out] at this
            omega
          have hfall : 0 < pre.length → y ≤ lastOf pre := hdr.falls
          generalize hm : pre.length = m at *
          have cct : W.cell? ⟨bct, 0, none⟩ = some (.int .i64 m) := h3.cell 0
          have cla : W.cell? ⟨bla, 0, none⟩ = some (.int .i64 (lastOf pre)) := h2.cell 0
          have fct := h3.free 0
          have fla := h2.free 0
          generalize lastOf pre = lz at cla hfall
          have cct2 : W.drew.cell? ⟨bct, 0, none⟩ = some (.int .i64 m) := cct
          have cla2 : W.drew.cell? ⟨bla, 0, none⟩ = some (.int .i64 lz) := cla
          have fct2 : W.drew.frozen? ⟨bct, 0, none⟩ = false := fct
          have fla2 : W.drew.frozen? ⟨bla, 0, none⟩ = false := fla
          have hwr : IntKind.i64.wrap ((m : Int) + 1) = (m : Int) + 1 := by rw [IntKind.wrap_i64]; omega
          have nlc : bct ≠ bla := by have := HBC.out; omega
          have ncl : bla ≠ bct := nlc.symm
          have ua : Upd [bla] W (W.setCell ⟨bla, 0, none⟩ (.int .i64 y)) := (Upd.refl [bla] W).setCell (p := ⟨bla, 0, none⟩) (by simp) _
          have rct1 := h3.upd ua (by simpa using nlc)
          have cct3 : (W.setCell ⟨bla, 0, none⟩ (.int .i64 y)).cell? ⟨bct, 0, none⟩ = some (.int .i64 m) := rct1.cell 0
          have fct3 := rct1.free 0
          obtain ⟨Wb, hWb⟩ : ∃ z, z = (W.setCell ⟨bla, 0, none⟩ (.int .i64 y)).setCell ⟨bct, 0, none⟩ (.int .i64 ((m : Int) + 1)) := ⟨_, rfl⟩
          have ub : Upd [bla, bct] W Wb := by rw [hWb]; exact (ua.mono (by simp)).setCell (p := ⟨bct, 0, none⟩) (by simp) _
          have rlab : IsRow Wb bla 3 [.int .i64 y] := by rw [hWb]; exact (h2.setCell_same 0 _).setCell_other _ nlc _
          have rctb : IsRow Wb bct 3 [.int .i64 ((m : Int) + 1)] := by rw [hWb]; exact rct1.setCell_same 0 _
          have rreb : IsRow Wb bre 4 [.bool false] := h1.upd ub (by have := HBS.out; have := HBC.out; have := HBL.out; simp; omega)
          have uwb : Upd [] w Wb := ((h4.mono (S' := [bla, bct]) (by simp)).trans ub).shrink (by have := HBS.out; have := HBC.out; have := HBL.out; simp; omega)
          have hLows : Lows [bla, bct] w5.heap.size W Wb := ub.lows (fun z hz _ => by
            have := HQ.out
            have := HBC.out
            simp only [List.mem_cons, List.mem_nil_iff, or_false] at hz
            exact .inl ⟨by simp; omega, by omega⟩)
          rw [hWb] at hLows uwb rreb rctb rlab
          have HF := Lib.hid (And.intro hLows (And.intro rreb (And.intro rlab (And.intro rctb uwb))))
          have HM := Lib.hid hm
          by_cases hm0 : m = 0
          · subst hm0
            have hw1 : IntKind.i64.wrap 1 = 1 := by decide
            clear hLows rreb rctb rlab uwb ub hWb rct1 ua h1 h2 h3 h4 HA hvv hhp hdr hfall hm
            gi_wp2_with fail
            refine round_held (r := l) (S := fun _ => True) (by rintro ⟨_, _, hh⟩; exact hh) (by kernel_rfl) (by kernel_rfl) trivial ?_
            intro _
            refine wpAnyH_take (i := 0) (v := .int .i64 y) rfl (by kernel_rfl) (by kernel_rfl) (by kernel_rfl) (fun _ _ _ h => h) (Or.inl ⟨by rfl, fun w hSw => by (try dsimp only at hSw); go_simp⟩) trivial ?_
            try simp only [Act.put, List.setIfInBounds_toArray, List.set_cons_zero, List.set_cons_succ]
            refine wpAnyH_ready (rs := [1, 3]) (by kernel_rfl) (by simp) ?_
            refine AllReadyH.cons rfl (fun K hK => ?_) (AllReadyH.cons rfl (fun K hK => ?_) AllReadyH.nil)
            · go_simp
              refine hK.out _ _ trivial (fun _ => ?_)
              clear hK K
              try simp only [Act.put, List.setIfInBounds_toArray, List.set_cons_zero, List.set_cons_succ]
              refine wpAnyH_take (i := 2) (v := .int .i64 1) rfl (by kernel_rfl) (by kernel_rfl) (by kernel_rfl) (fun _ _ _ h => h) (Or.inl ⟨by rfl, fun w hSw => by (try dsimp only at hSw); go_simp⟩) trivial ?_
              try simp only [Act.put, List.setIfInBounds_toArray, List.set_cons_zero, List.set_cons_succ]
              refine wpAnyH_ready (rs := [3]) (by kernel_rfl) (by simp) ?_
              refine AllReadyH.cons rfl (fun K hK => ?_) AllReadyH.nil
              go_simp
              refine hK.out _ _ trivial (fun _ => ?_)
              clear hK K
              try simp only [Act.put, List.setIfInBounds_toArray, List.set_cons_zero, List.set_cons_succ]
              refine wpAnyH_ready (rs := [4]) (by kernel_rfl) (by simp) ?_
              refine AllReadyH.cons rfl (fun K hK => ?_) AllReadyH.nil
              go_simp
              refine hK.out _ _ trivial (fun _ => ?_)
              clear hK K
              try simp only [Act.put, List.setIfInBounds_toArray, List.set_cons_zero, List.set_cons_succ]
              refine wpAnyH_done (by kernel_rfl) ?_ _
              refine ⟨HF.out.1.drewn, HF.out.2.1, ?_, ?_, HF.out.2.2.2.2.drew⟩
              · rw [lastOf_snoc]; exact HF.out.2.2.1
              · rw [List.length_append]
                show IsRow _ bct 3 [.int .i64 ((pre.length + 1 : Nat) : Int)]
                rw [HM.out]
                have e : ((0 + 1 : Nat) : Int) = ((0 : Nat) : Int) + 1 := by omega
                rw [e]
                exact HF.out.2.2.2.1
            · go_simp
              refine hK.out _ _ trivial (fun _ => ?_)
              clear hK K
              try simp only [Act.put, List.setIfInBounds_toArray, List.set_cons_zero, List.set_cons_succ]
              refine wpAnyH_ready (rs := [1]) (by kernel_rfl) (by simp) ?_
              refine AllReadyH.cons rfl (fun K hK => ?_) AllReadyH.nil
              go_simp
              refine hK.out _ _ trivial (fun _ => ?_)
              clear hK K
              try simp only [Act.put, List.setIfInBounds_toArray, List.set_cons_zero, List.set_cons_succ]
              refine wpAnyH_take (i := 2) (v := .int .i64 1) rfl (by kernel_rfl) (by kernel_rfl) (by kernel_rfl) (fun _ _ _ h => h) (Or.inl ⟨by rfl, fun w hSw => by (try dsimp only at hSw); go_simp⟩) trivial ?_
              try simp only [Act.put, List.setIfInBounds_toArray, List.set_cons_zero, List.set_cons_succ]
              refine wpAnyH_ready (rs := [4]) (by kernel_rfl) (by simp) ?_
              refine AllReadyH.cons rfl (fun K hK => ?_) AllReadyH.nil
              go_simp
              refine hK.out _ _ trivial (fun _ => ?_)
              clear hK K
              try simp only [Act.put, List.setIfInBounds_toArray, List.set_cons_zero, List.set_cons_succ]
              refine wpAnyH_done (by kernel_rfl) ?_ _
              refine ⟨HF.out.1.drewn, HF.out.2.1, ?_, ?_, HF.out.2.2.2.2.drew⟩
              · rw [lastOf_snoc]; exact HF.out.2.2.1
              · rw [List.length_append]
                show IsRow _ bct 3 [.int .i64 ((pre.length + 1 : Nat) : Int)]
                rw [HM.out]
                have e : ((0 + 1 : Nat) : Int) = ((0 : Nat) : Int) + 1 := by omega
                rw [e]
                exact HF.out.2.2.2.1
          · have q1 : decide ((0 : Int) < (m : Int)) = true := decide_eq_true (by omega)
            have hmpos : 0 < m := by omega
            have q2 : decide (lz < y) = false := decide_eq_false (by have := hfall (by omega); omega)
            clear hLows rreb rctb rlab uwb ub hWb rct1 ua h1 h2 h3 h4 HA hvv hhp hdr hfall hm hm0
            gi_wp2_with fail
            refine round_held (r := l) (S := fun _ => True) (by rintro ⟨_, _, hh⟩; exact hh) (by kernel_rfl) (by kernel_rfl) trivial ?_
            intro _
            refine wpAnyH_take (i := 0) (v := .int .i64 y) rfl (by kernel_rfl) (by kernel_rfl) (by kernel_rfl) (fun _ _ _ h => h) (Or.inl ⟨by rfl, fun w hSw => by (try dsimp only at hSw); go_simp⟩) trivial ?_
            try simp only [Act.put, List.setIfInBounds_toArray, List.set_cons_zero, List.set_cons_succ]
            refine wpAnyH_ready (rs := [1, 3]) (by kernel_rfl) (by simp) ?_
            refine AllReadyH.cons rfl (fun K hK => ?_) (AllReadyH.cons rfl (fun K hK => ?_) AllReadyH.nil)
            · go_simp
              refine hK.out _ _ trivial (fun _ => ?_)
              clear hK K
              try simp only [Act.put, List.setIfInBounds_toArray, List.set_cons_zero, List.set_cons_succ]
              refine wpAnyH_take (i := 2) (v := .int .i64 ((m : Int) + 1)) rfl (by kernel_rfl) (by kernel_rfl) (by kernel_rfl) (fun _ _ _ h => h) (Or.inl ⟨by rfl, fun w hSw => by (try dsimp only at hSw); go_simp⟩) trivial ?_
              try simp only [Act.put, List.setIfInBounds_toArray, List.set_cons_zero, List.set_cons_succ]
              refine wpAnyH_ready (rs := [3]) (by kernel_rfl) (by simp) ?_
              refine AllReadyH.cons rfl (fun K hK => ?_) AllReadyH.nil
              go_simp
              refine hK.out _ _ trivial (fun _ => ?_)
              clear hK K
              try simp only [Act.put, List.setIfInBounds_toArray, List.set_cons_zero, List.set_cons_succ]
              refine wpAnyH_ready (rs := [4]) (by kernel_rfl) (by simp) ?_
              refine AllReadyH.cons rfl (fun K hK => ?_) AllReadyH.nil
              go_simp
              refine hK.out _ _ trivial (fun _ => ?_)
              clear hK K
              try simp only [Act.put, List.setIfInBounds_toArray, List.set_cons_zero, List.set_cons_succ]
              refine wpAnyH_done (by kernel_rfl) ?_ _
              refine ⟨HF.out.1.drewn, HF.out.2.1, ?_, ?_, HF.out.2.2.2.2.drew⟩
              · rw [lastOf_snoc]; exact HF.out.2.2.1
              · rw [List.length_append]
                show IsRow _ bct 3 [.int .i64 ((pre.length + 1 : Nat) : Int)]
                rw [HM.out]
                have e : ((m + 1 : Nat) : Int) = (m : Int) + 1 := by omega
                rw [e]
                exact HF.out.2.2.2.1
            · go_simp
              refine hK.out _ _ trivial (fun _ => ?_)
              clear hK K
              try simp only [Act.put, List.setIfInBounds_toArray, List.set_cons_zero, List.set_cons_succ]
              refine wpAnyH_ready (rs := [1]) (by kernel_rfl) (by simp) ?_
              refine AllReadyH.cons rfl (fun K hK => ?_) AllReadyH.nil
              go_simp
              refine hK.out _ _ trivial (fun _ => ?_)
              clear hK K
              try simp only [Act.put, List.setIfInBounds_toArray, List.set_cons_zero, List.set_cons_succ]
              refine wpAnyH_take (i := 2) (v := .int .i64 ((m : Int) + 1)) rfl (by kernel_rfl) (by kernel_rfl) (by kernel_rfl) (fun _ _ _ h => h) (Or.inl ⟨by rfl, fun w hSw => by (try dsimp only at hSw); go_simp⟩) trivial ?_
              try simp only [Act.put, List.setIfInBounds_toArray, List.set_cons_zero, List.set_cons_succ]
              refine wpAnyH_ready (rs := [4]) (by kernel_rfl) (by simp) ?_
              refine AllReadyH.cons rfl (fun K hK => ?_) AllReadyH.nil
              go_simp
              refine hK.out _ _ trivial (fun _ => ?_)
              clear hK K
              try simp only [Act.put, List.setIfInBounds_toArray, List.set_cons_zero, List.set_cons_succ]
              refine wpAnyH_done (by kernel_rfl) ?_ _
              refine ⟨HF.out.1.drewn, HF.out.2.1, ?_, ?_, HF.out.2.2.2.2.drew⟩
              · rw [lastOf_snoc]; exact HF.out.2.2.1
              · rw [List.length_append]
                show IsRow _ bct 3 [.int .i64 ((pre.length + 1 : Nat) : Int)]
                rw [HM.out]
                have e : ((m + 1 : Nat) : Int) = (m : Int) + 1 := by omega
                rw [e]
                exact HF.out.2.2.2.1

end Go.Proofs.Ytgeaboahccfdcaa
