/- Once of points. -/
import Derived.Test.YtpoogkgekeocbaaD
namespace Go.Proofs.Ytpoogkgekeocbaa
open Go.RowKit
attribute [local go_sem] Oper.semAt_some

/-- A list in a box has grown by an append. -/
theorem body_grow {W W5 : World} {B bo : Nat} {u v' : Value} {x x' : List Pt} {o : Obj} (ho : Own 24 W B u x) (hg : ((W.drew).alloc o).grownBy W5 u.ownBlock) (hbo : bo < B) (hr : IsRow W bo 22 [u]) (hown5 : Own 24 W5 B v' x') :
    IsRow (W5.setCell ⟨bo, 0, none⟩ v') bo 22 [v'] ∧ Own 24 (W5.setCell ⟨bo, 0, none⟩ v') B v' x' ∧ Lows [bo] B W (W5.setCell ⟨bo, 0, none⟩ v') ∧
    (∀ w, Upd [] w W → w.heap.size ≤ bo → w.heap.size ≤ B → Upd [] w (W5.setCell ⟨bo, 0, none⟩ v')) := by
  have hrow := ho.row
  have U5 : Upd u.ownBlock.toList W W5 := (((Upd.refl _ W).drew).alloc o).grown hg (fun k hk => .inl (by simp [hk]))
  have U6 : Upd (bo :: u.ownBlock.toList) W (W5.setCell ⟨bo, 0, none⟩ v') := (U5.mono (S' := bo :: u.ownBlock.toList) (fun k hk => List.mem_cons_of_mem _ hk)).setCell (p := ⟨bo, 0, none⟩) (by simp) v'
  have hmem : ∀ k, k ∈ u.ownBlock.toList → B ≤ k ∧ ∃ c e f, W.heap[k]? = some (.cells c e f) := fun k hk => hrow k (by simpa using hk)
  refine ⟨?_, hown5.kept ((Upd.refl [bo] W5).setCell (p := ⟨bo, 0, none⟩) (by simp) v') (by simpa using hbo), U6.lows fun k hk _ => ?_, fun w hw h1 h2 => ?_⟩
  · exact (hr.upd U5 (fun e => by have := (hmem _ e).1; omega)).setCell_same 0 v'
  · rcases List.mem_cons.1 hk with e | e
    · subst e; exact .inl ⟨by simp, hbo⟩
    · exact .inr (hmem k e)
  · refine ((hw.mono (S' := bo :: u.ownBlock.toList) (by simp)).trans U6).shrink fun k hk hlt => ?_
    rcases List.mem_cons.1 hk with e | e
    · omega
    · have := (hmem k e).1; omega

set_option maxRecDepth 100000 in
set_option maxHeartbeats 1000000 in
theorem once_any (p : Option Addr) (c : Nat) (xs : List Pt) (w : World) (hx : View w p c xs) (hn : xs.length ≤ 1048576) :
    Calls Try.prog 22 #[.slice p xs.length c, .func (.func 23) #[] #[]] w fun e w' => (∃ v ys, e = .returned v ∧ Own 24 w' w.heap.size v (heads sm40 ys ys.length) ∧ Sorted false ys ∧ ys.Perm xs) ∧ Upd [] w w' := by
  have HX := Lib.hid hx
  clear hx
  refine (callsIn_wide (n := 3)).1 ?_
  refine callsIn_of_wp_marks Try.func22 rfl trivial ?_ rfl
  refine wpIn_wide.2 ?_
  simp only [Try.ntmps22, List.size_toArray, List.length_cons, List.length_nil, Nat.reduceAdd, Nat.reduceSub, Array.replicate_succ, Array.replicate_zero, List.push_toArray, List.append_toArray, List.nil_append, List.cons_append]
  go_wp2_with (go_at_call 25; refine (sort_false _ _ xs _ (HX.out.upd (((Upd.refl [] w).alloc _).alloc _)) hn).mono ?_; rintro e W3 ⟨⟨v, s, rfl, hov, hso, hpe⟩, U0⟩)
  have hsl := hpe.length_eq
  have HSP := Lib.hid (And.intro hso hpe)
  have hn2 : s.length ≤ 1048576 := by omega
  have ro := (IsRow.new w [.func (.func 23) #[] #[]] 57).alloc (.cells #[.slice none 0 0] 22)
  have rb := IsRow.new (w.alloc (.cells #[.func (.func 23) #[] #[]] 57)) [.slice none 0 0] 22
  have U1 : Upd [] w ((w.alloc (.cells #[.func (.func 23) #[] #[]] 57)).alloc (.cells #[.slice none 0 0] 22)) := ((Upd.refl [] w).alloc _).alloc _
  have hsz : ((w.alloc (.cells #[.func (.func 23) #[] #[]] 57)).alloc (.cells #[.slice none 0 0] 22)).heap.size = w.heap.size + 2 := by simp
  simp only [World.size_alloc] at rb
  rw [hsz] at hov
  have ro3 := ro.upd U0 (by simp)
  have rb3 := rb.upd U0 (by simp)
  have U3 := U1.trans U0
  have hsz3 := U0.size
  rw [hsz] at hsz3
  clear hsl ro rb U1 U0 hsz hso hpe
  obtain ⟨po, co, rfl, hvo⟩ := hov.view
  have hge := hov.ge
  refine (runs_any _ _ _ _ _ _ _).mono ?_
  rintro e W4 ⟨rfl, rfl⟩
  obtain ⟨q1, hq1⟩ : ∃ z, z = W3.heap.size := ⟨_, rfl⟩
  obtain ⟨q3, hq3⟩ : ∃ z, z = w.heap.size := ⟨_, rfl⟩
  have r1 := (IsRow.new W3 [.slice po s.length co] 22).alloc (.cells #[.func (.func 40) #[] #[.pointer (some ⟨q3, 0, none⟩)]] 65)
  have r2 := IsRow.new (W3.alloc (.cells #[.slice po s.length co] 22)) [.func (.func 40) #[] #[.pointer (some ⟨q3, 0, none⟩)]] 65
  simp only [World.size_alloc] at r2
  have U4 : Upd [] W3 ((W3.alloc (.cells #[.slice po s.length co] 22)).alloc (.cells #[.func (.func 40) #[] #[.pointer (some ⟨q3, 0, none⟩)]] 65)) := ((Upd.refl [] W3).alloc _).alloc _
  rw [← hq1] at r1 r2
  rw [← hq3] at ro3 rb3
  rw [← hq1, ← hq3]
  have r3 := ro3.upd U4 (by simp)
  have r4 := rb3.upd U4 (by simp)
  have hv4 := hvo.upd U4
  have U5 := U3.trans U4
  have hsz4 : q1 + 2 = ((W3.alloc (.cells #[.slice po s.length co] 22)).alloc (.cells #[.func (.func 40) #[] #[.pointer (some ⟨q3, 0, none⟩)]] 65)).heap.size := by simp [hq1]
  have HQ3 := Lib.hid hq3
  have HGE := Lib.hid hge
  have HV := Lib.hid hv4
  have hq13 : w.heap.size + 2 ≤ q1 := by omega
  clear hq1 hq3 ro3 rb3 U4 U3 hvo hov hge hv4
  generalize (W3.alloc (.cells #[.slice po s.length co] 22)).alloc (.cells #[.func (.func 40) #[] #[.pointer (some ⟨q3, 0, none⟩)]] 65) = W4 at r1 r2 r3 r4 HV U5 hsz4 ⊢
  go_wp2_with fail
  have lt1 := r1.lt
  have lt3 := r3.lt
  have lt4 := r4.lt
  rw [← HQ3.out] at hq13
  refine (wpIn_wide (n := 3)).1 ?_
  refine wp_range' (gf := 42) (lb := #[.pointer (some ⟨q1, 0, none⟩), .pointer (some ⟨q1 + 1, 0, none⟩)]) rfl (enters_of Try.func42 (by kernel_rfl) rfl)
    (runs_iter40 2 W4 q1 (q1 + 1) q3 po co s [q3 + 1] HV.out hn2 r1 r2 r3 (by simp; omega) (fun _ b off k e => by have := HGE.out b off k e; have := HQ3.out; simp; omega)) (fun _ => rfl) (by simp)
    (fun pre W => ∃ v, IsRow W (q3 + 1) 22 [v] ∧ Own 24 W W4.heap.size v (heads sm40 s (tot pre)) ∧ Upd [] w W ∧ W4.heap.size ≤ W.heap.size)
    (fun _ _ _ => False)
    ?hI ?hIx ?hAdm ?h0 (fun t y => (t.setIfInBounds 12 y.1).setIfInBounds 6 y.1) ?assign ?body ?done ?stop
  case hI =>
    rintro pre W W' ⟨v, h1, h2, h3, h4⟩ u
    exact ⟨v, u.row h1 (by simp), h2.keptF u (by simp), u.upd h3 U5.size (by simp), Nat.le_trans h4 u.size⟩
  case hIx =>
    intro _ _ _ _ h
    exact h.elim
  case hAdm =>
    rintro pre y W W' ⟨h1, h2⟩ u
    exact ⟨h1, h2.keptF u (by simp)⟩
  case h0 => exact ⟨_, r4, Own.nil _ _, U5, Nat.le_refl _⟩
  case assign =>
    intro l y W K hK
    gi_wp2
    exact hK
  case stop =>
    intro D c pre W hD _ h hK
    exact h.elim
  case done =>
    rintro D ys W hD hys ⟨v, h1, h2, h3, _⟩ hK
    rw [hys] at h2
    have c1 : W.cell? ⟨q3 + 1, 0, none⟩ = some v := h1.cell 0
    obtain ⟨vp, vc, rfl, _⟩ := h2.view
    have H2 := Lib.hid h2
    clear h2
    go_wp2_with fail
    refine ⟨by simp, .inl ⟨_, _, rfl, run_takeDeferred hK, ?_⟩⟩
    have uf := updF_putObj (B := W4.heap.size) W D _ (.deferred none) hD hK rfl
    refine ⟨.slice vp (heads sm40 s s.length).length vc, by simp [results, Try.results22, go_sem], ⟨⟨_, s, rfl, (H2.out.keptF uf (by simp)).mono U5.size, HSP.out.1, HSP.out.2⟩, uf.upd h3 U5.size (by simp)⟩⟩
  case body =>
    rintro l pre ⟨v, g⟩ W ⟨u, h1, h2, h3, hB4⟩ ⟨hpc, ho⟩
    dsimp only at hpc ho ⊢
    have hg0 := hpc.first
    have hgl := hpc.pos
    have hgt := hpc.le
    have hhd := hpc.heads
    have hhl := heads_len sm40 s (tot pre)
    obtain ⟨gp, gcap, rfl, hvg⟩ := ho.view
    obtain ⟨bg, og, rfl, hbg, hcg⟩ := hvg.cells 0 _ hg0
    obtain ⟨cg, cg'⟩ := hcg 0 _ hg0
    rw [Nat.zero_mul, Nat.add_zero] at cg cg'
    have cb : W.cell? ⟨q3 + 1, 0, none⟩ = some u := h1.cell 0
    generalize hna : nth s (tot pre) = na at cg cg' hhd
    have HO := Lib.hid h2
    have HHD := Lib.hid hhd
    clear hcg hvg hg0 hhd h2 hna
    gi_wp2_with fail
    refine round_held (r := l) (S := fun _ => True) (by rintro ⟨_, _, hh⟩; exact hh) (by kernel_rfl) (by kernel_rfl) trivial ?_
    intro _
    have cb2 : W.drew.cell? ⟨q3 + 1, 0, none⟩ = some u := cb
    have cg2 : W.drew.cell? ⟨bg, og, none⟩ = some (Enc.c0 na) := cg
    have cg3 : W.drew.cell? ⟨bg, og + 1, none⟩ = some (Enc.c1 na) := cg'
    refine wpAnyH_take (i := 1) (v := .slice (some ⟨bg, og, none⟩) g.length gcap) rfl (by kernel_rfl) (by kernel_rfl) (by kernel_rfl) (fun _ _ _ h => h) (Or.inl ⟨by rfl, fun w _ => by go_simp⟩) trivial ?_
    try simp only [Act.put, List.setIfInBounds_toArray, List.set_cons_zero, List.set_cons_succ]
    refine wpAnyH_take (i := 2) (v := .pointer (some ⟨bg, og, none⟩)) rfl (by kernel_rfl) (by kernel_rfl) (by kernel_rfl) (fun _ _ _ h => h) (Or.inl ⟨by rfl, fun w _ => by go_simp⟩) trivial ?_
    try simp only [Act.put, List.setIfInBounds_toArray, List.set_cons_zero, List.set_cons_succ]
    refine wpAnyH_ready (rs := [0, 3]) (by kernel_rfl) (by simp) ?_
    refine AllReadyH.cons rfl (fun K hK => ?_) (AllReadyH.cons rfl (fun K hK => ?_) AllReadyH.nil)
    · go_simp
      refine hK.out _ _ trivial (fun _ => ?_)
      clear hK K
      try simp only [Act.put, List.setIfInBounds_toArray, List.set_cons_zero, List.set_cons_succ]
      refine wpAnyH_ready (rs := [3]) (by kernel_rfl) (by simp) ?_
      refine AllReadyH.cons rfl (fun K hK => ?_) AllReadyH.nil
      go_simp
      refine hK.out _ _ trivial (fun _ => ?_)
      clear hK K
      try simp only [Act.put, List.setIfInBounds_toArray, List.set_cons_zero, List.set_cons_succ]
      refine wpAnyH_ready (rs := [4]) (by kernel_rfl) (by simp) ?_
      refine AllReadyH.cons rfl (fun K hK => ?_) AllReadyH.nil
      go_simp
      refine hK.out _ _ trivial (fun _ => ?_)
      clear hK K
      try simp only [Act.put, List.setIfInBounds_toArray, List.set_cons_zero, List.set_cons_succ]
      refine wpAnyH_ready (rs := [5]) (by kernel_rfl) (by simp) ?_
      refine AllReadyH.cons rfl (fun K hK => ?_) AllReadyH.nil
      refine step_append_one ty22 (u := na) rfl (.tmp 13) (.tmp 17) rfl W4.heap.size u (heads sm40 s (tot pre)) W.heap.size 1 (by rfl) (by rfl) (oneAt_new W.drew _ _) (HO.out.kept (((Upd.refl [] W).drew).alloc _) (by simp)) (by simp; exact Nat.le_succ_of_le hB4) (by omega) (fun g5 cap5 W5 ho5 hg5 hm5 => ?_)
      try simp only [Act.put, List.setIfInBounds_toArray, List.set_cons_zero, List.set_cons_succ]
      obtain ⟨k1, k2, k3, k4⟩ := body_grow HO.out hg5 (by omega) h1 ho5
      have U5w : Upd u.ownBlock.toList W W5 := (((Upd.refl _ W).drew).alloc _).grown hg5 (fun k hk => .inl (by simp [hk]))
      have r5 : IsRow W5 (q3 + 1) 22 [u] := h1.upd U5w (fun e => by have := (HO.out.row _ (by simpa using e)).1; omega)
      have c5 := r5.cell 0
      have f5 := r5.free 0
      simp only [List.getElem?_cons_zero] at c5
      have KK := Lib.hid (And.intro k1 (And.intro k2 (And.intro k3 k4)))
      clear k1 k2 k3 k4 ho5 hg5 U5w r5
      refine hK.out _ _ trivial (fun _ => ?_)
      clear hK K
      try simp only [Act.put, List.setIfInBounds_toArray, List.set_cons_zero, List.set_cons_succ]
      refine wpAnyH_ready (rs := [6]) (by kernel_rfl) (by simp) ?_
      refine AllReadyH.cons rfl (fun K hK => ?_) AllReadyH.nil
      go_simp
      refine hK.out _ _ trivial (fun _ => ?_)
      clear hK K
      try simp only [Act.put, List.setIfInBounds_toArray, List.set_cons_zero, List.set_cons_succ]
      refine wpAnyH_done (by kernel_rfl) ?_ _
      refine ⟨KK.out.2.2.1, _, KK.out.1, ?_, KK.out.2.2.2 w h3 (by have := HQ3.out; omega) U5.size, Nat.le_trans hB4 KK.out.2.2.1.toLow.size⟩
      rw [tot_one]
      show Own 24 _ _ _ (heads sm40 s (tot pre + g.length))
      rw [HHD.out]
      exact KK.out.2.1
    · go_simp
      refine hK.out _ _ trivial (fun _ => ?_)
      clear hK K
      try simp only [Act.put, List.setIfInBounds_toArray, List.set_cons_zero, List.set_cons_succ]
      refine wpAnyH_ready (rs := [0, 4]) (by kernel_rfl) (by simp) ?_
      refine AllReadyH.cons rfl (fun K hK => ?_) (AllReadyH.cons rfl (fun K hK => ?_) AllReadyH.nil)
      · go_simp
        refine hK.out _ _ trivial (fun _ => ?_)
        clear hK K
        try simp only [Act.put, List.setIfInBounds_toArray, List.set_cons_zero, List.set_cons_succ]
        refine wpAnyH_ready (rs := [4]) (by kernel_rfl) (by simp) ?_
        refine AllReadyH.cons rfl (fun K hK => ?_) AllReadyH.nil
        go_simp
        refine hK.out _ _ trivial (fun _ => ?_)
        clear hK K
        try simp only [Act.put, List.setIfInBounds_toArray, List.set_cons_zero, List.set_cons_succ]
        refine wpAnyH_ready (rs := [5]) (by kernel_rfl) (by simp) ?_
        refine AllReadyH.cons rfl (fun K hK => ?_) AllReadyH.nil
        refine step_append_one ty22 (u := na) rfl (.tmp 13) (.tmp 17) rfl W4.heap.size u (heads sm40 s (tot pre)) W.heap.size 1 (by rfl) (by rfl) (oneAt_new W.drew _ _) (HO.out.kept (((Upd.refl [] W).drew).alloc _) (by simp)) (by simp; exact Nat.le_succ_of_le hB4) (by omega) (fun g5 cap5 W5 ho5 hg5 hm5 => ?_)
        try simp only [Act.put, List.setIfInBounds_toArray, List.set_cons_zero, List.set_cons_succ]
        obtain ⟨k1, k2, k3, k4⟩ := body_grow HO.out hg5 (by omega) h1 ho5
        have U5w : Upd u.ownBlock.toList W W5 := (((Upd.refl _ W).drew).alloc _).grown hg5 (fun k hk => .inl (by simp [hk]))
        have r5 : IsRow W5 (q3 + 1) 22 [u] := h1.upd U5w (fun e => by have := (HO.out.row _ (by simpa using e)).1; omega)
        have c5 := r5.cell 0
        have f5 := r5.free 0
        simp only [List.getElem?_cons_zero] at c5
        have KK := Lib.hid (And.intro k1 (And.intro k2 (And.intro k3 k4)))
        clear k1 k2 k3 k4 ho5 hg5 U5w r5
        refine hK.out _ _ trivial (fun _ => ?_)
        clear hK K
        try simp only [Act.put, List.setIfInBounds_toArray, List.set_cons_zero, List.set_cons_succ]
        refine wpAnyH_ready (rs := [6]) (by kernel_rfl) (by simp) ?_
        refine AllReadyH.cons rfl (fun K hK => ?_) AllReadyH.nil
        go_simp
        refine hK.out _ _ trivial (fun _ => ?_)
        clear hK K
        try simp only [Act.put, List.setIfInBounds_toArray, List.set_cons_zero, List.set_cons_succ]
        refine wpAnyH_done (by kernel_rfl) ?_ _
        refine ⟨KK.out.2.2.1, _, KK.out.1, ?_, KK.out.2.2.2 w h3 (by have := HQ3.out; omega) U5.size, Nat.le_trans hB4 KK.out.2.2.1.toLow.size⟩
        rw [tot_one]
        show Own 24 _ _ _ (heads sm40 s (tot pre + g.length))
        rw [HHD.out]
        exact KK.out.2.1
      · go_simp
        refine hK.out _ _ trivial (fun _ => ?_)
        clear hK K
        try simp only [Act.put, List.setIfInBounds_toArray, List.set_cons_zero, List.set_cons_succ]
        refine wpAnyH_ready (rs := [0]) (by kernel_rfl) (by simp) ?_
        refine AllReadyH.cons rfl (fun K hK => ?_) AllReadyH.nil
        have cb3 : (W.alloc (.cells #[Enc.c0 na, Enc.c1 na] 24)).cell? ⟨q3 + 1, 0, none⟩ = some u := (h1.alloc _).cell 0
        go_simp
        refine hK.out _ _ trivial (fun _ => ?_)
        clear hK K
        try simp only [Act.put, List.setIfInBounds_toArray, List.set_cons_zero, List.set_cons_succ]
        refine wpAnyH_ready (rs := [5]) (by kernel_rfl) (by simp) ?_
        refine AllReadyH.cons rfl (fun K hK => ?_) AllReadyH.nil
        refine step_append_one ty22 (u := na) rfl (.tmp 13) (.tmp 17) rfl W4.heap.size u (heads sm40 s (tot pre)) W.heap.size 1 (by rfl) (by rfl) (oneAt_new W.drew _ _) (HO.out.kept (((Upd.refl [] W).drew).alloc _) (by simp)) (by simp; exact Nat.le_succ_of_le hB4) (by omega) (fun g5 cap5 W5 ho5 hg5 hm5 => ?_)
        try simp only [Act.put, List.setIfInBounds_toArray, List.set_cons_zero, List.set_cons_succ]
        obtain ⟨k1, k2, k3, k4⟩ := body_grow HO.out hg5 (by omega) h1 ho5
        have U5w : Upd u.ownBlock.toList W W5 := (((Upd.refl _ W).drew).alloc _).grown hg5 (fun k hk => .inl (by simp [hk]))
        have r5 : IsRow W5 (q3 + 1) 22 [u] := h1.upd U5w (fun e => by have := (HO.out.row _ (by simpa using e)).1; omega)
        have c5 := r5.cell 0
        have f5 := r5.free 0
        simp only [List.getElem?_cons_zero] at c5
        have KK := Lib.hid (And.intro k1 (And.intro k2 (And.intro k3 k4)))
        clear k1 k2 k3 k4 ho5 hg5 U5w r5
        refine hK.out _ _ trivial (fun _ => ?_)
        clear hK K
        try simp only [Act.put, List.setIfInBounds_toArray, List.set_cons_zero, List.set_cons_succ]
        refine wpAnyH_ready (rs := [6]) (by kernel_rfl) (by simp) ?_
        refine AllReadyH.cons rfl (fun K hK => ?_) AllReadyH.nil
        go_simp
        refine hK.out _ _ trivial (fun _ => ?_)
        clear hK K
        try simp only [Act.put, List.setIfInBounds_toArray, List.set_cons_zero, List.set_cons_succ]
        refine wpAnyH_done (by kernel_rfl) ?_ _
        refine ⟨KK.out.2.2.1, _, KK.out.1, ?_, KK.out.2.2.2 w h3 (by have := HQ3.out; omega) U5.size, Nat.le_trans hB4 KK.out.2.2.1.toLow.size⟩
        rw [tot_one]
        show Own 24 _ _ _ (heads sm40 s (tot pre + g.length))
        rw [HHD.out]
        exact KK.out.2.1

end Go.Proofs.Ytpoogkgekeocbaa
