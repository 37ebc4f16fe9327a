/- Once. -/
import Derived.Test.YtkfolfkgjpcmiaaJ
import Derived.Test.YtkfolfkgjpcmiaaRound
import Derived.Deep.RegionHeld3
import Derived.Shelf.Abstract
namespace Go.Proofs.Ytkfolfkgjpcmiaa
open Go.RowKit
attribute [local go_sem] Oper.semAt_some

theorem Own.ge {w : World} {B : Nat} {p : Option Addr} {n c : Nat} {x : List Int} (h : Own w B (.slice p n c) x) : ∀ b off k, p = some ⟨b, off, k⟩ → B ≤ b := by
  intro b off k hp
  rcases h.2 with ⟨h2, _⟩ | ⟨g, cap, cur, h2, hb, _⟩
  · simp only [Value.slice.injEq] at h2
    rw [hp] at h2; cases h2.1
  · simp only [Value.slice.injEq] at h2
    rw [hp] at h2
    cases h2.1
    exact hb

theorem Own.keptF {w w' : World} {B : Nat} {v : Value} {x : List Int} {T : List Nat} {B0 : Nat} (h : Own w B v x) (u : UpdF T B0 w w') (hT : ∀ k, k ∈ T → k < B) : Own w' B v x := by
  refine ⟨h.1, ?_⟩
  rcases h.2 with h2 | ⟨g, cap, cur, rfl, hb, hg, r⟩
  · exact .inl h2
  · refine .inr ⟨g, cap, cur, rfl, hb, ?_, r⟩
    rw [u.block g (Array.getElem?_eq_some_iff.1 hg).1 (fun e => by have := hT g e; omega) (.inr ⟨_, _, _, hg⟩)]
    exact hg

/-- An own list's block is a row of cells. -/
theorem Own.row {w : World} {B : Nat} {v : Value} {x : List Int} (h : Own w B v x) : ∀ k, v.ownBlock = some k → B ≤ k ∧ ∃ c e f, w.heap[k]? = some (.cells c e f) := by
  intro k hk
  rcases h.2 with ⟨rfl, _⟩ | ⟨g, cap, cur, rfl, hb, hg, _⟩
  · cases hk
  · cases hk
    exact ⟨hb, _, _, _, hg⟩

/-- One number is appended, inside a region that draws its order; from a list that lies above B. -/
theorem step_append_B {ops : Array Oper} {o : Oper} {a : Act} {K : Act → World → Prop} {Q : Exit → Act → World → Prop} {E : Prop} {w : World} {u : Int} (hgd : o.guard = none) (s x : Operand)
    (ho : o.op = .call { callee := .builtin .append, args := #[s, x], argTypes := #[22, 22] })
    (B : Nat) (v : Value) (xs : List Int) (b c : Nat) (hs : a.eval s = v) (hx : a.eval x = .slice (some ⟨b, 0, none⟩) 1 c) (hc : w.cell? ⟨b, 0, none⟩ = some (.int .i64 u))
    (hown : Own w B v xs) (hB : B ≤ w.heap.size) (hn : xs.length + 1 ≤ 1048576)
    (h : ∀ v' w', Own w' B v' (xs ++ [u]) → w.grownBy w' v.ownBlock → K (a.put o.dst v') w') :
    if Region.wanted o (yielded ops a.tmps) = true then Oper.wp Try.prog o a w K Q else E := by
  have hw : Region.wanted o (yielded ops a.tmps) = true := by simp [Region.wanted, hgd]
  rw [if_pos hw]
  obtain ⟨i0, hi, hz0, hz1, hz2⟩ := info_parts Try.info3
  obtain ⟨g, cap, w', hr, h2, h3, _, _⟩ := run_append_lies (P := Try.prog) w 22 o.type B 3 i0 (.int .i64 0) 1 8 Try.underlying22 hi hz0 hz1 hz2 rfl (by decide) v xs.length (ints xs) hown
    ⟨b, 0, none⟩ 1 c [.int .i64 u] rfl (fun j v hj => by match j, hj with | 0, hj => simp at hj; subst hj; rw [add_flat]; exact hc) (by intro u hu; simp at hu; subst hu; rfl) (by omega) (by unfold maxLen; omega) (by omega) hB _ rfl
  unfold Oper.wp execOp
  simp only [ho, resolve, invoke, builtin, Sem.run_bind, Sem.run_pure, Result.andThen_ok, List.map_toArray, List.map_cons, List.map_nil, hs, hx, hr]
  refine h _ w' ?_ h3
  unfold Own
  rw [ints_append, List.length_append]
  exact h2

/-- A list in a box has grown by an append. -/
theorem body_grow {W W5 : World} {B bo : Nat} {u v' : Value} {x x' : List Int} {o : Obj} (ho : Own W B u x) (hg : ((W.drew).alloc o).grownBy W5 u.ownBlock) (hbo : bo < B) (hr : IsRow W bo 22 [u]) (hown5 : Own W5 B v' x') :
    IsRow (W5.setCell ⟨bo, 0, none⟩ v') bo 22 [v'] ∧ Own (W5.setCell ⟨bo, 0, none⟩ v') B v' x' ∧ Lows [bo] B W (W5.setCell ⟨bo, 0, none⟩ v') ∧
    (∀ w, Upd [] w W → w.heap.size ≤ bo → w.heap.size ≤ B → Upd [] w (W5.setCell ⟨bo, 0, none⟩ v')) := by
  have hrow := ho.row
  have U5 : Upd u.ownBlock.toList W W5 := (((Upd.refl _ W).drew).alloc o).grown hg (fun k hk => .inl (by simp [hk]))
  have U6 : Upd (bo :: u.ownBlock.toList) W (W5.setCell ⟨bo, 0, none⟩ v') := (U5.mono (S' := bo :: u.ownBlock.toList) (fun k hk => List.mem_cons_of_mem _ hk)).setCell (p := ⟨bo, 0, none⟩) (by simp) v'
  have hmem : ∀ k, k ∈ u.ownBlock.toList → B ≤ k ∧ ∃ c e f, W.heap[k]? = some (.cells c e f) := fun k hk => hrow k (by simpa using hk)
  refine ⟨?_, hown5.kept ((Upd.refl [bo] W5).setCell (p := ⟨bo, 0, none⟩) (by simp) v') (by simpa using hbo), U6.lows fun k hk _ => ?_, fun w hw h1 h2 => ?_⟩
  · exact (hr.upd U5 (fun e => by have := (hmem _ e).1; omega)).setCell_same 0 v'
  · rcases List.mem_cons.1 hk with e | e
    · subst e; exact .inl ⟨by simp, hbo⟩
    · exact .inr (hmem k e)
  · refine ((hw.mono (S' := bo :: u.ownBlock.toList) (by simp)).trans U6).shrink fun k hk hlt => ?_
    rcases List.mem_cons.1 hk with e | e
    · omega
    · have := (hmem k e).1; omega

set_option maxRecDepth 100000 in
set_option maxHeartbeats 1000000 in
theorem once_any (p : Option Addr) (c : Nat) (xs : List Int) (w : World) (hx : View w p c xs) (hn : xs.length ≤ 1048576) :
    Calls Try.prog 18 #[.slice p xs.length c, .func (.func 11) #[] #[]] w fun e w' => (∃ v, e = .returned v ∧ Own w' w.heap.size v (heads (sortK key xs) xs.length)) ∧ Upd [] w w' := by
  have HX := Lib.hid hx
  clear hx
  refine (callsIn_wide (n := 3)).1 ?_
  refine callsIn_of_wp_marks Try.func18 rfl trivial ?_ rfl
  refine wpIn_wide.2 ?_
  simp only [Try.ntmps18, List.size_toArray, List.length_cons, List.length_nil, Nat.reduceAdd, Nat.reduceSub, Array.replicate_succ, Array.replicate_zero, List.push_toArray, List.append_toArray, List.nil_append, List.cons_append]
  go_wp2_with (go_at_call 10; refine (sort_any _ _ xs _ (HX.out.upd (((Upd.refl [] w).alloc _).alloc _)) hn).mono ?_; rintro e W3 ⟨⟨v, rfl, hov⟩, U0⟩)
  obtain ⟨s, hs⟩ : ∃ s, s = sortK key xs := ⟨_, rfl⟩
  have hsl : s.length = xs.length := by rw [hs, sortK_len]
  rw [← hs] at hov
  have HSS := Lib.hid hs
  have HSL := Lib.hid hsl
  have hn2 : s.length ≤ 1048576 := by omega
  have ro := (IsRow.new w [.func (.func 11) #[] #[]] 25).alloc (.cells #[.slice none 0 0] 22)
  have rb := IsRow.new (w.alloc (.cells #[.func (.func 11) #[] #[]] 25)) [.slice none 0 0] 22
  have U1 : Upd [] w ((w.alloc (.cells #[.func (.func 11) #[] #[]] 25)).alloc (.cells #[.slice none 0 0] 22)) := ((Upd.refl [] w).alloc _).alloc _
  have hsz : ((w.alloc (.cells #[.func (.func 11) #[] #[]] 25)).alloc (.cells #[.slice none 0 0] 22)).heap.size = w.heap.size + 2 := by simp
  simp only [World.size_alloc] at rb
  rw [hsz] at hov
  have ro3 := ro.upd U0 (by simp)
  have rb3 := rb.upd U0 (by simp)
  have U3 := U1.trans U0
  have hsz3 := U0.size
  rw [hsz] at hsz3
  clear hs hsl ro rb U1 U0 hsz
  obtain ⟨po, co, rfl, hvo⟩ := hov.view
  have hge := hov.ge
  refine (runs_any _ _ _ _ _ _ _).mono ?_
  rintro e W4 ⟨rfl, rfl⟩
  obtain ⟨q1, hq1⟩ : ∃ z, z = W3.heap.size := ⟨_, rfl⟩
  obtain ⟨q3, hq3⟩ : ∃ z, z = w.heap.size := ⟨_, rfl⟩
  have r1 := (IsRow.new W3 [.slice po s.length co] 22).alloc (.cells #[.func (.func 25) #[] #[.pointer (some ⟨q3, 0, none⟩)]] 34)
  have r2 := IsRow.new (W3.alloc (.cells #[.slice po s.length co] 22)) [.func (.func 25) #[] #[.pointer (some ⟨q3, 0, none⟩)]] 34
  simp only [World.size_alloc] at r2
  have U4 : Upd [] W3 ((W3.alloc (.cells #[.slice po s.length co] 22)).alloc (.cells #[.func (.func 25) #[] #[.pointer (some ⟨q3, 0, none⟩)]] 34)) := ((Upd.refl [] W3).alloc _).alloc _
  rw [← hq1] at r1 r2
  rw [← hq3] at ro3 rb3
  rw [← hq1, ← hq3]
  have r3 := ro3.upd U4 (by simp)
  have r4 := rb3.upd U4 (by simp)
  have hv4 := hvo.upd U4
  have U5 := U3.trans U4
  have hsz4 : q1 + 2 = ((W3.alloc (.cells #[.slice po s.length co] 22)).alloc (.cells #[.func (.func 25) #[] #[.pointer (some ⟨q3, 0, none⟩)]] 34)).heap.size := by simp [hq1]
  have HQ3 := Lib.hid hq3
  have HGE := Lib.hid hge
  have HV := Lib.hid hv4
  have hq13 : w.heap.size + 2 ≤ q1 := by omega
  clear hq1 hq3 ro3 rb3 U4 U3 hvo hov hge hv4
  generalize (W3.alloc (.cells #[.slice po s.length co] 22)).alloc (.cells #[.func (.func 25) #[] #[.pointer (some ⟨q3, 0, none⟩)]] 34) = W4 at r1 r2 r3 r4 HV U5 hsz4 ⊢
  go_wp2_with fail
  have lt1 := r1.lt
  have lt3 := r3.lt
  have lt4 := r4.lt
  rw [← HQ3.out] at hq13
  refine (wpIn_wide (n := 3)).1 ?_
  refine wp_range' (gf := 24) (lb := #[.pointer (some ⟨q1, 0, none⟩), .pointer (some ⟨q1 + 1, 0, none⟩)]) rfl (enters_of Try.func24 (by kernel_rfl) rfl)
    (runs_iter25 2 W4 q1 (q1 + 1) q3 po co s [q3 + 1] HV.out hn2 r1 r2 r3 (by simp; omega) (fun _ b off k e => by have := HGE.out b off k e; have := HQ3.out; simp; omega)) (fun _ => rfl) (by simp)
    (fun pre W => ∃ v, IsRow W (q3 + 1) 22 [v] ∧ Own W W4.heap.size v (heads s (tot pre)) ∧ Upd [] w W ∧ W4.heap.size ≤ W.heap.size)
    (fun _ _ _ => False)
    ?hI ?hIx ?hAdm ?h0 (fun t y => (t.setIfInBounds 12 y.1).setIfInBounds 6 y.1) ?assign ?body ?done ?stop
  case hI =>
    rintro pre W W' ⟨v, h1, h2, h3, h4⟩ u
    exact ⟨v, u.row h1 (by simp), h2.keptF u (by simp), u.upd h3 U5.size (by simp), Nat.le_trans h4 u.size⟩
  case hIx =>
    intro _ _ _ _ h
    exact h.elim
  case hAdm =>
    rintro pre y W W' ⟨h1, h2⟩ u
    exact ⟨h1, h2.keptF u (by simp)⟩
  case h0 => exact ⟨_, r4, Own.nil _ _, U5, Nat.le_refl _⟩
  case assign =>
    intro l y W K hK
    gi_wp2
    exact hK
  case stop =>
    intro D c pre W hD _ h hK
    exact h.elim
  case done =>
    rintro D ys W hD hys ⟨v, h1, h2, h3, _⟩ hK
    rw [hys] at h2
    have c1 : W.cell? ⟨q3 + 1, 0, none⟩ = some v := h1.cell 0
    obtain ⟨vp, vc, rfl, _⟩ := h2.view
    have H2 := Lib.hid h2
    clear h2
    go_wp2_with fail
    refine ⟨by simp, .inl ⟨_, _, rfl, run_takeDeferred hK, ?_⟩⟩
    have uf := updF_putObj (B := W4.heap.size) W D _ (.deferred none) hD hK rfl
    refine ⟨.slice vp (heads s s.length).length vc, by simp [results, Try.results18, go_sem], ⟨⟨_, rfl, ?_⟩, uf.upd h3 U5.size (by simp)⟩⟩
    rw [← HSS.out, ← HSL.out]
    exact (H2.out.keptF uf (by simp)).mono U5.size
  case body =>
    rintro l pre ⟨v, g⟩ W ⟨u, h1, h2, h3, hB4⟩ ⟨hpc, ho⟩
    dsimp only at hpc ho ⊢
    have hg0 := hpc.first
    have hgl := hpc.pos
    have hgt := hpc.le
    have hhd := hpc.heads
    have hhl := heads_len s (tot pre)
    obtain ⟨gp, gcap, rfl, hvg⟩ := ho.view
    obtain ⟨bg, og, rfl, hbg, hcg⟩ := hvg.cells 0 _ hg0
    have cg := hcg 0 _ hg0
    rw [Nat.add_zero] at cg
    have cb : W.cell? ⟨q3 + 1, 0, none⟩ = some u := h1.cell 0
    generalize hna : nth s (tot pre) = na at cg hhd
    have HO := Lib.hid h2
    have HHD := Lib.hid hhd
    clear hcg hvg hg0 hhd h2 hna
    gi_wp2_with fail
    refine round_held (r := l) (S := fun _ => True) (by rintro ⟨_, _, hh⟩; exact hh) (by kernel_rfl) (by kernel_rfl) trivial ?_
    intro _
    have cb2 : W.drew.cell? ⟨q3 + 1, 0, none⟩ = some u := cb
    have cg2 : W.drew.cell? ⟨bg, og, none⟩ = some (.int .i64 na) := cg
    refine wpAnyH_take (i := 1) (v := .slice (some ⟨bg, og, none⟩) g.length gcap) rfl (by kernel_rfl) (by kernel_rfl) (by kernel_rfl) (fun _ _ _ h => h) (Or.inl ⟨by rfl, fun w _ => by go_simp⟩) trivial ?_
    try simp only [Act.put, List.setIfInBounds_toArray, List.set_cons_zero, List.set_cons_succ]
    refine wpAnyH_take (i := 2) (v := .pointer (some ⟨bg, og, none⟩)) rfl (by kernel_rfl) (by kernel_rfl) (by kernel_rfl) (fun _ _ _ h => h) (Or.inl ⟨by rfl, fun w _ => by go_simp⟩) trivial ?_
    try simp only [Act.put, List.setIfInBounds_toArray, List.set_cons_zero, List.set_cons_succ]
    refine wpAnyH_ready (rs := [0, 3]) (by kernel_rfl) (by simp) ?_
    refine AllReadyH.cons rfl (fun K hK => ?_) (AllReadyH.cons rfl (fun K hK => ?_) AllReadyH.nil)
    · go_simp
      refine hK.out _ _ trivial (fun _ => ?_)
      clear hK K
      try simp only [Act.put, List.setIfInBounds_toArray, List.set_cons_zero, List.set_cons_succ]
      refine wpAnyH_ready (rs := [3]) (by kernel_rfl) (by simp) ?_
      refine AllReadyH.cons rfl (fun K hK => ?_) AllReadyH.nil
      go_simp
      refine hK.out _ _ trivial (fun _ => ?_)
      clear hK K
      try simp only [Act.put, List.setIfInBounds_toArray, List.set_cons_zero, List.set_cons_succ]
      refine wpAnyH_ready (rs := [4]) (by kernel_rfl) (by simp) ?_
      refine AllReadyH.cons rfl (fun K hK => ?_) AllReadyH.nil
      go_simp
      refine hK.out _ _ trivial (fun _ => ?_)
      clear hK K
      try simp only [Act.put, List.setIfInBounds_toArray, List.set_cons_zero, List.set_cons_succ]
      refine wpAnyH_ready (rs := [5]) (by kernel_rfl) (by simp) ?_
      refine AllReadyH.cons rfl (fun K hK => ?_) AllReadyH.nil
      refine step_append_B (u := na) rfl (.tmp 13) (.tmp 17) rfl W4.heap.size u (heads s (tot pre)) W.heap.size 1 (by rfl) (by rfl) (cell_new W.drew _ _) (HO.out.kept (((Upd.refl [] W).drew).alloc _) (by simp)) (by simp; exact Nat.le_succ_of_le hB4) (by omega) (fun v' W5 ho5 hg5 => ?_)
      try simp only [Act.put, List.setIfInBounds_toArray, List.set_cons_zero, List.set_cons_succ]
      obtain ⟨vp, vcap, rfl, _⟩ := ho5.view
      obtain ⟨k1, k2, k3, k4⟩ := body_grow HO.out hg5 (by omega) h1 ho5
      simp only [List.length_append, List.length_cons, List.length_nil, Nat.zero_add] at k1 k2 k3 k4
      have U5w : Upd u.ownBlock.toList W W5 := (((Upd.refl _ W).drew).alloc _).grown hg5 (fun k hk => .inl (by simp [hk]))
      have r5 : IsRow W5 (q3 + 1) 22 [u] := h1.upd U5w (fun e => by have := (HO.out.row _ (by simpa using e)).1; omega)
      have c5 := r5.cell 0
      have f5 := r5.free 0
      simp only [List.getElem?_cons_zero] at c5
      have KK := Lib.hid (And.intro k1 (And.intro k2 (And.intro k3 k4)))
      clear k1 k2 k3 k4 ho5 hg5 U5w r5
      refine hK.out _ _ trivial (fun _ => ?_)
      clear hK K
      try simp only [Act.put, List.setIfInBounds_toArray, List.set_cons_zero, List.set_cons_succ]
      refine wpAnyH_ready (rs := [6]) (by kernel_rfl) (by simp) ?_
      refine AllReadyH.cons rfl (fun K hK => ?_) AllReadyH.nil
      go_simp
      refine hK.out _ _ trivial (fun _ => ?_)
      clear hK K
      try simp only [Act.put, List.setIfInBounds_toArray, List.set_cons_zero, List.set_cons_succ]
      refine wpAnyH_done (by kernel_rfl) ?_ _
      refine ⟨KK.out.2.2.1, _, KK.out.1, ?_, KK.out.2.2.2 w h3 (by have := HQ3.out; omega) U5.size, Nat.le_trans hB4 KK.out.2.2.1.toLow.size⟩
      rw [tot_one]
      show Own _ _ _ (heads s (tot pre + g.length))
      rw [HHD.out]
      exact KK.out.2.1
    · go_simp
      refine hK.out _ _ trivial (fun _ => ?_)
      clear hK K
      try simp only [Act.put, List.setIfInBounds_toArray, List.set_cons_zero, List.set_cons_succ]
      refine wpAnyH_ready (rs := [0, 4]) (by kernel_rfl) (by simp) ?_
      refine AllReadyH.cons rfl (fun K hK => ?_) (AllReadyH.cons rfl (fun K hK => ?_) AllReadyH.nil)
      · go_simp
        refine hK.out _ _ trivial (fun _ => ?_)
        clear hK K
        try simp only [Act.put, List.setIfInBounds_toArray, List.set_cons_zero, List.set_cons_succ]
        refine wpAnyH_ready (rs := [4]) (by kernel_rfl) (by simp) ?_
        refine AllReadyH.cons rfl (fun K hK => ?_) AllReadyH.nil
        go_simp
        refine hK.out _ _ trivial (fun _ => ?_)
        clear hK K
        try simp only [Act.put, List.setIfInBounds_toArray, List.set_cons_zero, List.set_cons_succ]
        refine wpAnyH_ready (rs := [5]) (by kernel_rfl) (by simp) ?_
        refine AllReadyH.cons rfl (fun K hK => ?_) AllReadyH.nil
        refine step_append_B (u := na) rfl (.tmp 13) (.tmp 17) rfl W4.heap.size u (heads s (tot pre)) W.heap.size 1 (by rfl) (by rfl) (cell_new W.drew _ _) (HO.out.kept (((Upd.refl [] W).drew).alloc _) (by simp)) (by simp; exact Nat.le_succ_of_le hB4) (by omega) (fun v' W5 ho5 hg5 => ?_)
        try simp only [Act.put, List.setIfInBounds_toArray, List.set_cons_zero, List.set_cons_succ]
        obtain ⟨vp, vcap, rfl, _⟩ := ho5.view
        obtain ⟨k1, k2, k3, k4⟩ := body_grow HO.out hg5 (by omega) h1 ho5
        simp only [List.length_append, List.length_cons, List.length_nil, Nat.zero_add] at k1 k2 k3 k4
        have U5w : Upd u.ownBlock.toList W W5 := (((Upd.refl _ W).drew).alloc _).grown hg5 (fun k hk => .inl (by simp [hk]))
        have r5 : IsRow W5 (q3 + 1) 22 [u] := h1.upd U5w (fun e => by have := (HO.out.row _ (by simpa using e)).1; omega)
        have c5 := r5.cell 0
        have f5 := r5.free 0
        simp only [List.getElem?_cons_zero] at c5
        have KK := Lib.hid (And.intro k1 (And.intro k2 (And.intro k3 k4)))
        clear k1 k2 k3 k4 ho5 hg5 U5w r5
        refine hK.out _ _ trivial (fun _ => ?_)
        clear hK K
        try simp only [Act.put, List.setIfInBounds_toArray, List.set_cons_zero, List.set_cons_succ]
        refine wpAnyH_ready (rs := [6]) (by kernel_rfl) (by simp) ?_
        refine AllReadyH.cons rfl (fun K hK => ?_) AllReadyH.nil
        go_simp
        refine hK.out _ _ trivial (fun _ => ?_)
        clear hK K
        try simp only [Act.put, List.setIfInBounds_toArray, List.set_cons_zero, List.set_cons_succ]
        refine wpAnyH_done (by kernel_rfl) ?_ _
        refine ⟨KK.out.2.2.1, _, KK.out.1, ?_, KK.out.2.2.2 w h3 (by have := HQ3.out; omega) U5.size, Nat.le_trans hB4 KK.out.2.2.1.toLow.size⟩
        rw [tot_one]
        show Own _ _ _ (heads s (tot pre + g.length))
        rw [HHD.out]
        exact KK.out.2.1
      · go_simp
        refine hK.out _ _ trivial (fun _ => ?_)
        clear hK K
        try simp only [Act.put, List.setIfInBounds_toArray, List.set_cons_zero, List.set_cons_succ]
        refine wpAnyH_ready (rs := [0]) (by kernel_rfl) (by simp) ?_
        refine AllReadyH.cons rfl (fun K hK => ?_) AllReadyH.nil
        have cb3 : (W.alloc (.cells #[.int .i64 na] 3)).cell? ⟨q3 + 1, 0, none⟩ = some u := (h1.alloc _).cell 0
        go_simp
        refine hK.out _ _ trivial (fun _ => ?_)
        clear hK K
        try simp only [Act.put, List.setIfInBounds_toArray, List.set_cons_zero, List.set_cons_succ]
        refine wpAnyH_ready (rs := [5]) (by kernel_rfl) (by simp) ?_
        refine AllReadyH.cons rfl (fun K hK => ?_) AllReadyH.nil
        refine step_append_B (u := na) rfl (.tmp 13) (.tmp 17) rfl W4.heap.size u (heads s (tot pre)) W.heap.size 1 (by rfl) (by rfl) (cell_new W.drew _ _) (HO.out.kept (((Upd.refl [] W).drew).alloc _) (by simp)) (by simp; exact Nat.le_succ_of_le hB4) (by omega) (fun v' W5 ho5 hg5 => ?_)
        try simp only [Act.put, List.setIfInBounds_toArray, List.set_cons_zero, List.set_cons_succ]
        obtain ⟨vp, vcap, rfl, _⟩ := ho5.view
        obtain ⟨k1, k2, k3, k4⟩ := body_grow HO.out hg5 (by omega) h1 ho5
        simp only [List.length_append, List.length_cons, List.length_nil, Nat.zero_add] at k1 k2 k3 k4
        have U5w : Upd u.ownBlock.toList W W5 := (((Upd.refl _ W).drew).alloc _).grown hg5 (fun k hk => .inl (by simp [hk]))
        have r5 : IsRow W5 (q3 + 1) 22 [u] := h1.upd U5w (fun e => by have := (HO.out.row _ (by simpa using e)).1; omega)
        have c5 := r5.cell 0
        have f5 := r5.free 0
        simp only [List.getElem?_cons_zero] at c5
        have KK := Lib.hid (And.intro k1 (And.intro k2 (And.intro k3 k4)))
        clear k1 k2 k3 k4 ho5 hg5 U5w r5
        refine hK.out _ _ trivial (fun _ => ?_)
        clear hK K
        try simp only [Act.put, List.setIfInBounds_toArray, List.set_cons_zero, List.set_cons_succ]
        refine wpAnyH_ready (rs := [6]) (by kernel_rfl) (by simp) ?_
        refine AllReadyH.cons rfl (fun K hK => ?_) AllReadyH.nil
        go_simp
        refine hK.out _ _ trivial (fun _ => ?_)
        clear hK K
        try simp only [Act.put, List.setIfInBounds_toArray, List.set_cons_zero, List.set_cons_succ]
        refine wpAnyH_done (by kernel_rfl) ?_ _
        refine ⟨KK.out.2.2.1, _, KK.out.1, ?_, KK.out.2.2.2 w h3 (by have := HQ3.out; omega) U5.size, Nat.le_trans hB4 KK.out.2.2.1.toLow.size⟩
        rw [tot_one]
        show Own _ _ _ (heads s (tot pre + g.length))
        rw [HHD.out]
        exact KK.out.2.1

end Go.Proofs.Ytkfolfkgjpcmiaa
