/- hot.New. -/
import Derived.Test.YtpoogkgekeocbaaHM
import Derived.LoopIn
namespace Go.Proofs.Ytpoogkgekeocbaa
open Go.RowKit
attribute [local go_sem] Oper.semAt_some

theorem new_bad (p : Option Addr) (c : Nat) (xs : List Pt) (w : World) (hx : View w p c xs) (hn : xs.length ≤ 1048576) (hb : xs.all rightP = false) :
    Calls Try.prog 8 #[.slice p xs.length c] w fun e w' => e = .returned (.tuple #[.pointer none, .int .i64 11]) ∧ Upd [] w w' := by
  have HB := Lib.hid hb
  clear hb
  refine (callsIn_wide (n := 3)).1 ?_
  refine callsIn_of_wp_marks Try.func8 rfl trivial ?_ rfl
  refine wpIn_wide.2 ?_
  simp only [Try.ntmps8, List.size_toArray, List.length_cons, List.length_nil, Nat.reduceAdd, Nat.reduceSub, Array.replicate_succ, Array.replicate_zero, List.push_toArray, List.append_toArray, List.nil_append, List.cons_append]
  go_wp2_with (go_at_call 19; refine (contains_any _ _ xs _ hx hn).mono ?_; rintro e W3 ⟨rfl, U0⟩; rw [HB.out])
  exact ⟨.tuple #[.pointer none, .int .i64 11], by simp [results, Try.results8, go_sem], rfl, U0⟩

def rowsT (U : List Pt) : List (Value × List Pt) → Nat → List RowT
  | [], _ => []
  | y :: ys, t => ((nth U t).2, y.2.map (·.1)) :: rowsT U ys (t + y.2.length)
theorem rowsT_one (U : List Pt) (y : Value × List Pt) : ∀ (ys : List (Value × List Pt)) (t : Nat), rowsT U (ys ++ [y]) t = rowsT U ys t ++ [((nth U (t + tot ys)).2, y.2.map (·.1))]
  | [], t => by simp [rowsT, tot, total]
  | a :: ys, t => by
    simp only [List.cons_append, rowsT]
    rw [rowsT_one U y ys]
    have : tot (a :: ys) = a.2.length + tot ys := by simp [tot, total]
    rw [this, Nat.add_assoc]

theorem Z.cell_new2 (w : World) (o : Obj) (v : Value) (t : TypeId) : ((w.alloc o).alloc (.cells #[v] t)).cell? ⟨w.heap.size + 1, 0, none⟩ = some v := by
  have := Z.cell_new (w.alloc o) v t
  rwa [World.size_alloc] at this

theorem Z.wpListIn_append_intg {F : Fence} {nF : Nat} {ops : Array Oper} {rest : List Oper} {o : Oper} {a : Act} {Q : Exit → Act → World → Prop} {w : World} {u : Int} (hgd : o.guard = none) (s x : Operand)
    (ho : o.op = .call { callee := .builtin .append, args := #[s, x], argTypes := #[66, 66] })
    (w0 : World) (v : Value) (xs : List Int) (b c : Nat) (hs : a.eval s = v) (hx : a.eval x = .slice (some ⟨b, 0, none⟩) 1 c) (hc : w.cell? ⟨b, 0, none⟩ = some (.int .i64 u))
    (hown : Z.Own w w0.heap.size v xs) (hu : Upd [] w0 w) (hn : xs.length + 1 ≤ 1048576)
    (h : ∀ v' w', Z.Own w' w0.heap.size v' (xs ++ [u]) → Upd [] w0 w' → Upd v.ownBlock.toList w w' → wpListIn F nF Try.prog ops Q rest (a.put o.dst v') w') : wpListIn F nF Try.prog ops Q (o :: rest) a w := by
  refine wpListIn_plain hgd fun K hK => ?_
  obtain ⟨i0, hi, hz0, hz1, hz2⟩ := info_parts Z.Try.info3
  obtain ⟨g, cap, w', hr, h2, h3, _, _⟩ := run_append_lies (P := Try.prog) w 66 o.type w0.heap.size 3 i0 (.int .i64 0) 1 8 Try.underlying66 hi hz0 hz1 hz2 rfl (by decide) v xs.length (Z.ints xs) hown
    ⟨b, 0, none⟩ 1 c [.int .i64 u] rfl (fun j v hj => by match j, hj with | 0, hj => simp at hj; subst hj; rw [Z.add_flat]; exact hc) (by intro u hu; simp at hu; subst hu; rfl) (by omega) (by unfold maxLen; omega) (by omega) hu.size _ rfl
  have h5 := Z.own_grown hown h3 hu (Nat.le_refl _)
  have h6 : Upd v.ownBlock.toList w w' := (Upd.refl _ w).grown h3 (fun k hk => .inl (by simp [hk]))
  unfold Oper.wpIn
  refine ⟨by simp [Oper.about, ho, resolve, Target.leads, Sem.run_pure], ?_⟩
  rw [Oper.semAt_plain F _ _ (by rw [ho]; intro c hc'; cases hc')]
  simp [execOp, ho, resolve, invoke, builtin, hs, hx, hr, Result.andThen]
  refine hK _ _ (h _ w' ?_ h5 h6)
  unfold Z.Own
  rw [Z.ints_append, List.length_append]
  exact h2

theorem flat_len : ∀ {qs : List RowT}, (∀ q ∈ qs, q.2 ≠ []) → qs.length ≤ (flat qs).length
  | [], _ => Nat.zero_le _
  | q :: qs, h => by
    have h1 := flat_len (qs := qs) (fun z hz => h z (List.mem_cons_of_mem _ hz))
    have h2 : flat (q :: qs) = flat [q] ++ flat qs := flat_append [q] qs
    have h3 : 0 < q.2.length := List.length_pos_iff.2 (h q (List.mem_cons_self ..))
    rw [h2, List.length_append, flat_one, List.length_map, List.length_cons]
    omega
theorem Rows.len {U : List Pt} {qs : List RowT} (h : Rows U qs) : qs.length ≤ U.length := by
  have := flat_len h.ne
  rwa [h.flat] at this

/-- A row more: what lies there behind it. -/
theorem rows_grow {W wr W5 : World} {B B0 q q6 : Nat} {u v' cv pq vv : Value} {vp : Option Addr} {vn vc : Nat} {y : Int} {rv : List Rw} {qs : List RowT} {cs : List Pt} {xs : List Int} {o : Obj} (hq : q + 1 < B) (hq6 : q6 = W.heap.size) (hu : Upd [] W wr)
    (ho : Own 68 W B u rv) (hR : RowsOwn W B rv qs) (h5 : Own 24 W B0 cv cs) (h1 : IsRow W q 61 [cv, u]) (h2 : IsRow W (q + 1) 26 [pq]) (hBW : B ≤ W.heap.size) (hvv : vv = .slice vp vn vc)
    (hz : Z.Own wr q6 vv xs) (h6 : IsRow wr q6 68 [.int .i64 y, vv]) (hg : (wr.drew.alloc o).grownBy W5 u.ownBlock) (hown5 : Own 68 W5 B v' (rv ++ [⟨y, vp, vn, vc⟩])) :
    (IsRow W5 q 61 [cv, u] ∧ IsRow W5 (q + 1) 26 [pq] ∧ IsRow W5 q6 68 [.int .i64 y, vv]) ∧
    (IsRow (W5.setCell ⟨q, 1, none⟩ v') q 61 [cv, v'] ∧ IsRow (W5.setCell ⟨q, 1, none⟩ v') (q + 1) 26 [pq] ∧ IsRow (W5.setCell ⟨q, 1, none⟩ v') q6 68 [.int .i64 y, vv]) ∧
    Own 68 (W5.setCell ⟨q, 1, none⟩ v') B v' (rv ++ [⟨y, vp, vn, vc⟩]) ∧ RowsOwn (W5.setCell ⟨q, 1, none⟩ v') B (rv ++ [⟨y, vp, vn, vc⟩]) (qs ++ [(y, xs)]) ∧ Own 24 (W5.setCell ⟨q, 1, none⟩ v') B0 cv cs ∧ Lows [q] B W (W5.setCell ⟨q, 1, none⟩ v') ∧
    ∀ w, Upd [] w W → w.heap.size ≤ q → w.heap.size ≤ B → Upd [] w (W5.setCell ⟨q, 1, none⟩ v') := by
  have U5 : Upd u.ownBlock.toList wr W5 := (((Upd.refl _ wr).drew).alloc o).grown hg (fun k hk => .inl (by simp [hk]))
  have hor := ho.kept hu (by simp)
  have hrow : ∀ k, k ∈ u.ownBlock.toList → B ≤ k ∧ k < W.heap.size ∧ (∃ c f, W.heap[k]? = some (.cells c 68 f)) ∧ ∃ c f, wr.heap[k]? = some (.cells c 68 f) := fun k hk => by
    obtain ⟨a1, c, f, e⟩ := ho.rowT k (by simpa using hk)
    obtain ⟨_, c', f', e'⟩ := hor.rowT k (by simpa using hk)
    exact ⟨a1, (Array.getElem?_eq_some_iff.1 e).1, ⟨c, f, e⟩, c', f', e'⟩
  have n1 : q ∉ u.ownBlock.toList := fun hk => by have := (hrow _ hk).1; omega
  have n2 : q + 1 ∉ u.ownBlock.toList := fun hk => by have := (hrow _ hk).1; omega
  have n6 : q6 ∉ u.ownBlock.toList := fun hk => by have := (hrow _ hk).2.1; omega
  have a1 := (h1.upd hu (by simp)).upd U5 n1
  have a2 := (h2.upd hu (by simp)).upd U5 n2
  have a6 := h6.upd U5 n6
  have U6 : Upd [q] W5 (W5.setCell ⟨q, 1, none⟩ v') := (Upd.refl [q] W5).setCell (p := ⟨q, 1, none⟩) (by simp) v'
  have hT : ∀ k, k ∈ u.ownBlock.toList → ∃ c e f, wr.heap[k]? = some (.cells c e f) ∧ e ≠ 3 := fun k hk => by
    obtain ⟨c, f, e⟩ := (hrow k hk).2.2.2
    exact ⟨c, _, f, e, by decide⟩
  have hT2 : ∀ k, k ∈ u.ownBlock.toList → ∃ c e f, wr.heap[k]? = some (.cells c e f) ∧ e ≠ 24 := fun k hk => by
    obtain ⟨c, f, e⟩ := (hrow k hk).2.2.2
    exact ⟨c, _, f, e, by decide⟩
  have hq3 : ∀ k, k ∈ [q] → ∃ c e f, W5.heap[k]? = some (.cells c e f) ∧ e ≠ 3 := fun k hk => by have e := List.mem_singleton.1 hk; subst e; exact ⟨_, _, _, a1, by decide⟩
  have hq24 : ∀ k, k ∈ [q] → ∃ c e f, W5.heap[k]? = some (.cells c e f) ∧ e ≠ 24 := fun k hk => by have e := List.mem_singleton.1 hk; subst e; exact ⟨_, _, _, a1, by decide⟩
  have U7 : Upd (q :: u.ownBlock.toList) W (W5.setCell ⟨q, 1, none⟩ v') :=
    ((hu.mono (S' := q :: u.ownBlock.toList) (by simp)).trans (U5.mono (S' := q :: u.ownBlock.toList) (fun k hk => List.mem_cons_of_mem _ hk))).trans (U6.mono (S' := q :: u.ownBlock.toList) (fun k hk => by simp at hk; subst hk; simp))
  refine ⟨⟨a1, a2, a6⟩, ⟨a1.setCell_same 1 v', a2.setCell_other ⟨q, 1, none⟩ (by simp) v', a6.setCell_other ⟨q, 1, none⟩ (by have := h1.lt; simp; omega) v'⟩, hown5.kept U6 (fun k hk => by simp at hk; omega), RowsOwn.append rfl ?_ (hR.map fun v x z => ?_), ?_, U7.lows fun k hk _ => ?_, fun w hw l1 l2 => ?_⟩
  · rw [← hvv]
    exact ((hz.keptT U5 fun k hk => .inr (hT k hk)).keptT U6 fun k hk => .inr (hq3 k hk)).mono (by omega)
  · exact ((z.kept hu (by simp)).keptT U5 fun k hk => .inr (hT k hk)).keptT U6 fun k hk => .inr (hq3 k hk)
  · exact ((h5.kept hu (by simp)).keptT U5 fun k hk => .inr (hT2 k hk)).keptT U6 fun k hk => .inr (hq24 k hk)
  · rcases List.mem_cons.1 hk with e | e
    · subst e; exact .inl ⟨by simp, by omega⟩
    · obtain ⟨b1, _, ⟨c, f, b3⟩, _⟩ := hrow k e
      exact .inr ⟨b1, c, _, f, b3⟩
  · refine ((hw.mono (S' := q :: u.ownBlock.toList) (by simp)).trans U7).shrink fun k hk hlt => ?_
    rcases List.mem_cons.1 hk with e | e
    · omega
    · have := (hrow k e).1; omega

set_option maxRecDepth 100000 in
set_option maxHeartbeats 2000000 in
theorem new_any (p : Option Addr) (c : Nat) (xs : List Pt) (w : World) (hx : View w p c xs) (hn : xs.length ≤ 1000000) (hb : xs.all rightP = true) :
    Calls Try.prog 8 #[.slice p xs.length c] w fun e w' => (∃ s qs, e = .returned (.tuple #[.pointer (some ⟨s, 0, none⟩), .int .i64 0]) ∧ SetAt w' s w.heap.size (uniq false xs) qs ∧ Rows (uniq true xs) qs) ∧ Upd [] w w' := by
  have HB := Lib.hid hb
  have HX := Lib.hid hx
  clear hb hx
  refine (callsIn_wide (n := 3)).1 ?_
  refine callsIn_of_wp_marks Try.func8 rfl trivial ?_ rfl
  refine wpIn_wide.2 ?_
  simp only [Try.ntmps8, List.size_toArray, List.length_cons, List.length_nil, Nat.reduceAdd, Nat.reduceSub, Array.replicate_succ, Array.replicate_zero, List.push_toArray, List.append_toArray, List.nil_append, List.cons_append]
  go_wp2_with (go_at_call 19; refine (contains_any _ _ xs _ HX.out (by omega)).mono ?_; rintro e W3 ⟨rfl, U0⟩; rw [HB.out])
  refine (once_any _ _ xs _ (HX.out.upd U0) (by omega)).mono ?_
  rintro e W1 ⟨⟨cv, ys1, rfl, ho1, hs1, hp1⟩, U1⟩
  rw [heads_uniq hs1 hp1] at ho1
  have hul := uniq_len false xs
  have hB1 : w.heap.size ≤ W3.heap.size := U0.size
  have ho2 := ho1.mono hB1
  have U2 := U0.trans U1
  obtain ⟨cp, cc, rfl, hcv⟩ := ho2.view
  clear ho1 hs1 hp1 U0 U1 hB1
  generalize huc : uniq false xs = cs at ho2 hul hcv
  have HUC := Lib.hid huc
  have HO := Lib.hid ho2
  have HCV := Lib.hid hcv
  clear huc ho2 hcv
  have rs := (IsRow.new W1 [.slice cp cs.length cc, .slice none 0 0] 61).alloc (.cells #[.pointer (some ⟨W1.heap.size, 0, none⟩)] 26)
  have rb := IsRow.new (W1.alloc (.cells #[.slice cp cs.length cc, .slice none 0 0] 61)) [.pointer (some ⟨W1.heap.size, 0, none⟩)] 26
  have U3 : Upd [] W1 ((W1.alloc (.cells #[.slice cp cs.length cc, .slice none 0 0] 61)).alloc (.cells #[.pointer (some ⟨W1.heap.size, 0, none⟩)] 26)) := ((Upd.refl [] W1).alloc _).alloc _
  simp only [World.size_alloc] at rb
  obtain ⟨q, hq⟩ : ∃ z, z = W1.heap.size := ⟨_, rfl⟩
  rw [← hq] at rs U3
  rw [← hq] at rb
  have HRS := Lib.hid rs
  have HRB := Lib.hid rb
  have HU3 := Lib.hid U3
  have HQ := Lib.hid hq
  clear rs rb U3 hq
  go_wp2_with fail
  rw [← HQ.out]
  have hA : ((W1.alloc (.cells #[.slice cp cs.length cc, .slice none 0 0] 61)).alloc (.cells #[.pointer (some ⟨q, 0, none⟩)] 26)).heap.size = q + 2 := by simp [HQ.out]
  generalize (W1.alloc (.cells #[.slice cp cs.length cc, .slice none 0 0] 61)).alloc (.cells #[.pointer (some ⟨q, 0, none⟩)] 26) = WA at HRS HRB HU3 hA ⊢
  have hlen : cs.length ≤ 1000000 := by omega
  refine (sort_true _ _ _ _ ((HCV.out).upd HU3.out) (by omega)).mono ?_
  rintro e W2 ⟨⟨sv, ss, rfl, hov, hso, hpe⟩, U4⟩
  obtain ⟨sp, sc, rfl, hsv⟩ := hov.view
  have hge := hov.ge
  have HSL := Lib.hid hpe.length_eq
  have hss : ss = uniq true xs := sorted_uniq hso (by rw [HUC.out]; exact hpe)
  have HSS := Lib.hid hss
  have rs2 := HRS.out.upd U4 (by simp)
  have rb2 := HRB.out.upd U4 (by simp)
  have U5 := (U2.trans HU3.out).trans U4
  have ho2 := (HO.out.kept HU3.out (by simp)).kept U4 (by simp)
  have hA2 : q + 2 ≤ W2.heap.size := by have := U4.size; omega
  have hqw : w.heap.size ≤ q := by have := U2.size; have := HQ.out; omega
  clear hso hpe hss U2 HU3 HO HRS HRB HCV U4 hov
  go_wp2_with fail
  refine (runs_any _ _ _ _ _ _ _).mono ?_
  rintro e W4 ⟨rfl, rfl⟩
  obtain ⟨q1, hq1⟩ : ∃ z, z = W2.heap.size := ⟨_, rfl⟩
  have r1 := (IsRow.new W2 [.slice sp ss.length sc] 22).alloc (.cells #[.func (.func 27) #[] #[]] 65)
  have r2 := IsRow.new (W2.alloc (.cells #[.slice sp ss.length sc] 22)) [.func (.func 27) #[] #[]] 65
  simp only [World.size_alloc] at r2
  have U6 : Upd [] W2 ((W2.alloc (.cells #[.slice sp ss.length sc] 22)).alloc (.cells #[.func (.func 27) #[] #[]] 65)) := ((Upd.refl [] W2).alloc _).alloc _
  rw [← hq1] at r1 r2
  rw [← hq1]
  have r3 := rs2.upd U6 (by simp)
  have r4 := rb2.upd U6 (by simp)
  have ho4 := ho2.kept U6 (by simp)
  have hv4 := hsv.upd U6
  have U7 := U5.trans U6
  have hsz4 : q1 + 2 = ((W2.alloc (.cells #[.slice sp ss.length sc] 22)).alloc (.cells #[.func (.func 27) #[] #[]] 65)).heap.size := by simp [hq1]
  have HGE := Lib.hid hge
  have HV := Lib.hid hv4
  have HO := Lib.hid ho4
  have hq12 : q + 2 ≤ q1 := by omega
  have hWA : q + 2 = WA.heap.size := hA.symm
  clear hq1 rs2 rb2 U5 U6 hge hsv ho2 hv4 ho4 hA2 hA
  generalize (W2.alloc (.cells #[.slice sp ss.length sc] 22)).alloc (.cells #[.func (.func 27) #[] #[]] 65) = W4 at r1 r2 r3 r4 HV HO U7 hsz4 ⊢
  clear HQ
  go_wp2_with fail
  have lt1 := r1.lt
  have lt2 := r2.lt
  have lt3 := r3.lt
  have lt4 := r4.lt
  have HR3 := Lib.hid r3
  have HR4 := Lib.hid r4
  refine (wpIn_wide (n := 3)).1 ?_
  refine wp_range' (gf := 42) (lb := #[.pointer (some ⟨q1, 0, none⟩), .pointer (some ⟨q1 + 1, 0, none⟩)]) rfl (enters_of Try.func42 (by kernel_rfl) rfl)
    (runs_iter27 2 W4 q1 (q1 + 1) sp sc ss [q] HV.out (by have := HSL.out; omega) r1 r2 (by simp; omega) (fun _ b off k e => by have := HGE.out b off k e; simp; omega)) (fun _ => rfl) (by simp)
    (fun pre W => ∃ v rv, IsRow W q 61 [.slice cp cs.length cc, v] ∧ IsRow W (q + 1) 26 [.pointer (some ⟨q, 0, none⟩)] ∧ Own 68 W W4.heap.size v rv ∧ RowsOwn W W4.heap.size rv (rowsT ss pre 0) ∧ Own 24 W w.heap.size (.slice cp cs.length cc) cs ∧ Rows (ss.take (tot pre)) (rowsT ss pre 0) ∧ Upd [] w W ∧ W4.heap.size ≤ W.heap.size)
    (fun _ _ _ => False)
    ?hI ?hIx ?hAdm ?h0 (fun t y => (t.setIfInBounds 21 y.1).setIfInBounds 5 y.1) ?assign ?body ?done ?stop
  case hI =>
    rintro pre W W' ⟨v, rv, h1, h2, h3, h4, h5, h6, h7, h8⟩ u
    exact ⟨v, rv, u.row h1 (by simp), u.row h2 (by simp), h3.keptF u (by simp), h4.map (fun _ _ z => z.keptF u (by simp)), h5.keptF u (by simp), h6, u.upd h7 U7.size (by simp), Nat.le_trans h8 u.size⟩
  case hIx =>
    intro _ _ _ _ h
    exact h.elim
  case hAdm =>
    rintro pre y W W' ⟨h1, h2⟩ u
    exact ⟨h1, h2.keptF u (by simp)⟩
  case h0 => exact ⟨_, [], HR3.out, HR4.out, Own.nil _ _, trivial, HO.out.mono (by omega), Rows.nil, U7, Nat.le_refl _⟩
  case assign =>
    intro l y W K hK
    gi_wp2
    exact hK
  case stop =>
    intro D c pre W hD _ h hK
    exact h.elim
  case done =>
    rintro D ys W hD hys ⟨v, rv, h1, h2, h3, h4, h5, h6, h7, h8⟩ hK
    rw [hys, List.take_length] at h6
    have c1 : W.cell? ⟨q + 1, 0, none⟩ = some (.pointer (some ⟨q, 0, none⟩)) := h2.cell 0
    have H3 := Lib.hid h3
    have H4 := Lib.hid h4
    have H5 := Lib.hid h5
    have H6 := Lib.hid h6
    clear h3 h4 h5 h6
    go_wp2_with fail
    refine ⟨by simp, .inl ⟨_, _, rfl, run_takeDeferred hK, ?_⟩⟩
    have uf := updF_putObj (B := W4.heap.size) W D _ (.deferred none) hD hK rfl
    rw [HUC.out]
    refine ⟨.tuple #[.pointer (some ⟨q, 0, none⟩), .int .i64 0], by simp [results, Try.results8, go_sem], ⟨q, rowsT ss ys 0, rfl, ⟨hqw, _, v, rv, uf.row h1 (by simp), H5.out.keptF uf (by simp), (H3.out.keptF uf (by simp)).mono U7.size, H4.out.map (fun _ _ z => (z.keptF uf (by simp)).mono U7.size)⟩, HSS.out.subst (motive := fun z => Rows z (rowsT ss ys 0)) H6.out⟩, uf.upd h7 U7.size (by simp)⟩
  case body =>
    rintro l pre ⟨v, g⟩ W ⟨u, rv, h1, h2, h3, h4, h5, h6, h7, h8⟩ ⟨hpc, ho⟩
    dsimp only at hpc ho ⊢
    have hg0 := hpc.first
    have hgl := hpc.pos
    have hgt := hpc.le
    have hgl2 : g.length ≤ 1000000 := by have := HSL.out; omega
    obtain ⟨gp, gcap, rfl, hvg⟩ := ho.view
    obtain ⟨bg, og, rfl, hbg, hcg⟩ := hvg.cells 0 _ hg0
    obtain ⟨cg0, cg'⟩ := hcg 0 _ hg0
    clear cg0
    rw [Nat.zero_mul, Nat.add_zero] at cg'
    have HVG := Lib.hid hvg
    have H1 := Lib.hid h1
    have H2 := Lib.hid h2
    have H3 := Lib.hid h3
    have H4 := Lib.hid h4
    have H5 := Lib.hid h5
    have H6 := Lib.hid h6
    have HPC := Lib.hid hpc
    generalize hna : nth ss (tot pre) = na at cg'
    have HNA := Lib.hid hna
    have cg2 : W.cell? ⟨bg, og + 1, none⟩ = some (.int .i64 na.2) := cg'
    have hlw1 := h1.lt
    have hlw2 := h2.lt
    clear hcg hvg hg0 h1 h2 h3 h4 h5 h6 hpc cg' ho hna HR3 HR4 HV HO r1 r2 r3 r4 HGE
    gi_wp2_with fail
    have rq := IsRow.new W [.int .i64 na.2, .slice none 0 0] 68
    obtain ⟨q6, hq6⟩ : ∃ z, z = W.heap.size := ⟨_, rfl⟩
    rw [← hq6] at rq
    rw [← hq6]
    have U8 : Upd [] W (W.alloc (.cells #[.int .i64 na.2, .slice none 0 0] 68)) := (Upd.refl [] W).alloc _
    have hs8 : q6 < (W.alloc (.cells #[.int .i64 na.2, .slice none 0 0] 68)).heap.size := by simp [hq6]
    have HRQ := Lib.hid rq
    have HQ6 := Lib.hid hq6
    clear rq hq6 cg2
    generalize W.alloc (.cells #[.int .i64 na.2, .slice none 0 0] 68) = W0 at HRQ U8 hs8 ⊢
    gi_loopw [29] (fun u29 wr => ∃ j : Nat, j ≤ g.length ∧ u29 = .int .i64 j ∧ ∃ v, IsRow wr q6 68 [.int .i64 na.2, v] ∧ Z.Own wr W.heap.size v ((g.map (·.1)).take j) ∧ Upd [] W wr) (fun u29 _ => g.length - (intOf u29).toNat)
    case atStart => exact ⟨0, Nat.zero_le _, rfl, _, HRQ.out, Z.Own.nil _ _, U8⟩
    case round =>
      obtain ⟨j, hj, rfl, v, hr6, hz, U9⟩ := hrel
      have hzl : ((g.map (·.1)).take j).length ≤ 1000000 := by rw [List.length_take, List.length_map]; have := HSL.out; omega
      have HZ := Lib.hid hz
      by_cases hjl : j < g.length
      · obtain ⟨⟨a1, a2⟩, ha⟩ : ∃ a, g[j]? = some a := ⟨g[j], List.getElem?_eq_getElem hjl⟩
        obtain ⟨bx, ox, e1, _, hcx⟩ := (HVG.out.upd U9).cells j (a1, a2) ha
        cases e1
        obtain ⟨ca, ca'⟩ := hcx j (a1, a2) ha
        have htk : (g.map (·.1)).take (j + 1) = (g.map (·.1)).take j ++ [a1] := by rw [List.take_add_one, List.getElem?_map, ha]; rfl
        have HTK := Lib.hid htk
        change wr.cell? _ = some (.int .i64 a1) at ca
        change wr.cell? _ = some (.int .i64 a2) at ca'
        have c6 : wr.cell? ⟨q6, 1, none⟩ = some v := hr6.cell 1
        have HR6 := Lib.hid hr6
        have hqs := hr6.lt
        clear hcx ha htk hz hr6
        gi_wp2_with (gi_at_builtin; go_loud (refine Z.wpListIn_append_intg (u := a1) rfl _ _ rfl W _ ((g.map (·.1)).take j) _ 1 (by rfl) (by rfl) (Z.cell_new2 _ _ _ _) (HZ.out.kept (((Upd.refl [] wr).alloc (.cells #[.int .i64 a1, .int .i64 a2] 24)).alloc (.cells #[.int .i64 a1] 3)) (fun _ h => nomatch h)) ((U9.alloc _).alloc _) (by omega) ?_))
        intro v2 w2 ho2 U10 U11
        obtain ⟨vp, vn, vc, rfl⟩ : ∃ vp vn vc, v2 = .slice vp vn vc := by obtain ⟨vp, vc, e, _⟩ := ho2.view; exact ⟨vp, _, vc, e⟩
        have hq6n : q6 ∉ v.ownBlock.toList := fun hk => by
          obtain ⟨_, c', f', e⟩ := Z.Own.rowT HZ.out q6 (by simpa using hk)
          have e2 := HR6.out
          unfold IsRow at e2
          rw [e2] at e
          cases e
        have r6 := ((HR6.out.alloc (.cells #[.int .i64 a1, .int .i64 a2] 24)).alloc (.cells #[.int .i64 a1] 3)).upd U11 hq6n
        have c62 : w2.cell? ⟨q6, 1, none⟩ = some v := r6.cell 1
        have f62 := r6.free 1
        have HO2 := Lib.hid ho2
        have HR7 := Lib.hid r6
        have hqs2 := r6.lt
        clear ho2 U11 r6 HZ ca ca' c6 HR6
        gi_wp2_with fail
        go_roundw
        case rel =>
          refine ⟨j + 1, by omega, by go_num, .slice vp vn vc, HR7.out.setCell_same 1 _, ?_, U10.setCell_new (p := ⟨q6, 1, none⟩) (by rw [HQ6.out]; exact Nat.le_refl _) _⟩
          rw [HTK.out]
          exact Z.Own.keptT HO2.out ((Upd.refl [q6] w2).setCell (p := ⟨q6, 1, none⟩) (by simp) _) fun k hk => .inr (by have e := List.mem_singleton.1 hk; subst e; exact ⟨_, _, _, HR7.out, by decide⟩)
        case measure => simp [intOf]; omega
      · have hje : j = g.length := by omega
        subst hje
        rw [show g.length = (g.map (·.1)).length from (List.length_map _).symm, List.take_length] at HZ
        have HR6 := Lib.hid hr6
        obtain ⟨vp, vn, vc, rfl⟩ : ∃ vp vn vc, v = .slice vp vn vc := by obtain ⟨vp, vc, e, _⟩ := hz.view; exact ⟨vp, _, vc, e⟩
        obtain ⟨up, un, uc, rfl⟩ : ∃ vp vn vc, u = .slice vp vn vc := by obtain ⟨vp, vc, e, _⟩ := H3.out.view; exact ⟨vp, _, vc, e⟩
        have H3w := Lib.hid (H3.out.kept U9 (by simp))
        have hszw := U9.size
        have hrl := H4.out.len
        have hrl2 := H6.out.len
        rw [List.length_take] at hrl2
        have hrl3 : rv.length + 1 ≤ 1048576 := by have := HSL.out; omega
        clear hrl hrl2
        have H1w := Lib.hid (H1.out.upd U9 (by simp))
        have H2w := Lib.hid (H2.out.upd U9 (by simp))
        clear hz hr6
        gi_wp2_with fail
        refine round_held (r := l) (S := fun z => z.cell? ⟨q + 1, 0, none⟩ = some (.pointer (some ⟨q, 0, none⟩)) ∧ z.cell? ⟨q6, 0, none⟩ = some (.int .i64 na.2) ∧ z.cell? ⟨q6, 1, none⟩ = some (.slice vp vn vc)) (by rintro ⟨_, _, hh⟩; exact hh) (by kernel_rfl) (by kernel_rfl) ⟨H2w.out.cell 0, HR6.out.cell 0, HR6.out.cell 1⟩ ?_
        intro hS0
        refine wpAnyH_take (i := 0) (v := .pointer (some ⟨q, 0, none⟩)) rfl (by kernel_rfl) (by kernel_rfl) (by kernel_rfl) (fun _ _ _ h => h) (Or.inl ⟨by rfl, fun w hS => by obtain ⟨s1, s2, s3⟩ := hS; go_simp⟩) hS0 ?_
        try simp only [Act.put, List.setIfInBounds_toArray, List.set_cons_zero, List.set_cons_succ]
        refine wpAnyH_take (i := 1) (v := .pointer (some ⟨q, 0, none⟩)) rfl (by kernel_rfl) (by kernel_rfl) (by kernel_rfl) (fun _ _ _ h => h) (Or.inl ⟨by rfl, fun w hS => by obtain ⟨s1, s2, s3⟩ := hS; go_simp⟩) hS0 ?_
        try simp only [Act.put, List.setIfInBounds_toArray, List.set_cons_zero, List.set_cons_succ]
        refine wpAnyH_take (i := 2) (v := .pointer (some ⟨q, 0, none⟩)) rfl (by kernel_rfl) (by kernel_rfl) (by kernel_rfl) (fun _ _ _ h => h) (Or.inl ⟨by rfl, fun w hS => by obtain ⟨s1, s2, s3⟩ := hS; go_simp⟩) hS0 ?_
        try simp only [Act.put, List.setIfInBounds_toArray, List.set_cons_zero, List.set_cons_succ]
        refine wpAnyH_take (i := 3) (v := .pointer (some ⟨q, 1, none⟩)) rfl (by kernel_rfl) (by kernel_rfl) (by kernel_rfl) (fun _ _ _ h => h) (Or.inl ⟨by rfl, fun w hS => by obtain ⟨s1, s2, s3⟩ := hS; go_simp⟩) hS0 ?_
        try simp only [Act.put, List.setIfInBounds_toArray, List.set_cons_zero, List.set_cons_succ]
        refine wpAnyH_take (i := 5) (v := .agg #[.int .i64 na.2, .slice vp vn vc]) rfl (by kernel_rfl) (by kernel_rfl) (by kernel_rfl) (fun _ _ _ h => h) (Or.inl ⟨by rfl, fun w hS => by obtain ⟨s1, s2, s3⟩ := hS; go_simp⟩) hS0 ?_
        try simp only [Act.put, List.setIfInBounds_toArray, List.set_cons_zero, List.set_cons_succ]
        refine wpAnyH_ready (rs := [4, 6]) (by kernel_rfl) (by simp) ?_
        refine AllReadyH.cons rfl (fun K hK => ?_) (AllReadyH.cons rfl (fun K hK => ?_) AllReadyH.nil)
        · have cu2 : wr.drew.cell? ⟨q, 1, none⟩ = some (.slice up un uc) := H1w.out.cell 1
          go_simp
          refine hK.out _ _ hS0 (fun _ => ?_)
          clear hK K
          try simp only [Act.put, List.setIfInBounds_toArray, List.set_cons_zero, List.set_cons_succ]
          clear cu2
          refine wpAnyH_ready (rs := [6]) (by kernel_rfl) (by simp) ?_
          refine AllReadyH.cons rfl (fun K hK => ?_) AllReadyH.nil
          go_simp
          refine hK.out _ _ ⟨(H2w.out.alloc _).cell 0, (HR6.out.alloc _).cell 0, (HR6.out.alloc _).cell 1⟩ (fun _ => ?_)
          clear hK K
          try simp only [Act.put, List.setIfInBounds_toArray, List.set_cons_zero, List.set_cons_succ]
          refine wpAnyH_ready (rs := [7]) (by kernel_rfl) (by simp) ?_
          refine AllReadyH.cons rfl (fun K hK => ?_) AllReadyH.nil
          refine stepR_append_one tyR59 (u := (⟨na.2, vp, vn, vc⟩ : Rw)) rfl (.tmp 45) (.tmp 47) rfl W4.heap.size (.slice up un uc) rv wr.heap.size 1 (by rfl) (by rfl) (oneAt_new wr.drew (⟨na.2, vp, vn, vc⟩ : Rw) _) (H3w.out.kept (((Upd.refl [] wr).drew).alloc _) (by simp)) (by simp; omega) hrl3 (fun g5 cap5 W5 ho5 hg5 hm5 => ?_)
          try simp only [Act.put, List.setIfInBounds_toArray, List.set_cons_zero, List.set_cons_succ]
          obtain ⟨⟨k1, k2, k3⟩, ⟨k4, k5, k6⟩, k7, k8, k9, k10, k11⟩ := rows_grow (by omega) HQ6.out U9 H3.out H4.out H5.out H1.out H2.out h8 rfl (HQ6.out ▸ HZ.out) HR6.out hg5 ho5
          have c5 : W5.cell? ⟨q, 1, none⟩ = some (.slice up un uc) := k1.cell 1
          have f5 := k1.free 1
          have KK := Lib.hid (And.intro k4 (And.intro k5 (And.intro k6 (And.intro k7 (And.intro k8 (And.intro k9 (And.intro k10 k11)))))))
          clear k4 k5 k6 k7 k8 k9 k10 k11 ho5 hg5
          refine hK.out _ _ ⟨k2.cell 0, k3.cell 0, k3.cell 1⟩ (fun _ => ?_)
          clear hK K k1
          try simp only [Act.put, List.setIfInBounds_toArray, List.set_cons_zero, List.set_cons_succ]
          refine wpAnyH_take (i := 8) (v := .pointer (some ⟨q, 0, none⟩)) rfl (by kernel_rfl) (by kernel_rfl) (by kernel_rfl) (fun _ _ _ h => h) (Or.inl ⟨by rfl, fun w hS => by obtain ⟨s1, s2, s3⟩ := hS; go_simp⟩) ⟨k2.cell 0, k3.cell 0, k3.cell 1⟩ ?_
          try simp only [Act.put, List.setIfInBounds_toArray, List.set_cons_zero, List.set_cons_succ]
          refine wpAnyH_take (i := 9) (v := .pointer (some ⟨q, 1, none⟩)) rfl (by kernel_rfl) (by kernel_rfl) (by kernel_rfl) (fun _ _ _ h => h) (Or.inl ⟨by rfl, fun w hS => by obtain ⟨s1, s2, s3⟩ := hS; go_simp⟩) ⟨k2.cell 0, k3.cell 0, k3.cell 1⟩ ?_
          try simp only [Act.put, List.setIfInBounds_toArray, List.set_cons_zero, List.set_cons_succ]
          clear k2 k3
          refine wpAnyH_ready (rs := [10]) (by kernel_rfl) (by simp) ?_
          refine AllReadyH.cons rfl (fun K hK => ?_) AllReadyH.nil
          go_simp
          refine hK.out _ _ ⟨KK.out.2.1.cell 0, KK.out.2.2.1.cell 0, KK.out.2.2.1.cell 1⟩ (fun _ => ?_)
          clear hK K
          try simp only [Act.put, List.setIfInBounds_toArray, List.set_cons_zero, List.set_cons_succ]
          refine wpAnyH_done (by kernel_rfl) ?_ _
          refine ⟨KK.out.2.2.2.2.2.2.1, _, _, KK.out.1, KK.out.2.1, KK.out.2.2.2.1, ?_, KK.out.2.2.2.2.2.1, ?_, KK.out.2.2.2.2.2.2.2 w h7 hqw U7.size, Nat.le_trans h8 KK.out.2.2.2.2.2.2.1.toLow.size⟩
          · rw [rowsT_one, Nat.zero_add, HNA.out]
            exact KK.out.2.2.2.2.1
          · rw [rowsT_one, tot_one, Nat.zero_add]
            exact H6.out.next (HSS.out ▸ uniq_strict true xs) HPC.out
        · go_simp
          refine hK.out _ _ ⟨(H2w.out.alloc _).cell 0, (HR6.out.alloc _).cell 0, (HR6.out.alloc _).cell 1⟩ (fun _ => ?_)
          clear hK K
          try simp only [Act.put, List.setIfInBounds_toArray, List.set_cons_zero, List.set_cons_succ]
          have cu2 : (wr.alloc (.cells #[.int .i64 na.2, .slice vp vn vc] 68)).cell? ⟨q, 1, none⟩ = some (.slice up un uc) := (H1w.out.alloc _).cell 1
          refine wpAnyH_ready (rs := [4]) (by kernel_rfl) (by simp) ?_
          refine AllReadyH.cons rfl (fun K hK => ?_) AllReadyH.nil
          go_simp
          refine hK.out _ _ ⟨(H2w.out.alloc _).cell 0, (HR6.out.alloc _).cell 0, (HR6.out.alloc _).cell 1⟩ (fun _ => ?_)
          clear hK K
          try simp only [Act.put, List.setIfInBounds_toArray, List.set_cons_zero, List.set_cons_succ]
          clear cu2
          refine wpAnyH_ready (rs := [7]) (by kernel_rfl) (by simp) ?_
          refine AllReadyH.cons rfl (fun K hK => ?_) AllReadyH.nil
          refine stepR_append_one tyR59 (u := (⟨na.2, vp, vn, vc⟩ : Rw)) rfl (.tmp 45) (.tmp 47) rfl W4.heap.size (.slice up un uc) rv wr.heap.size 1 (by rfl) (by rfl) (oneAt_new wr.drew (⟨na.2, vp, vn, vc⟩ : Rw) _) (H3w.out.kept (((Upd.refl [] wr).drew).alloc _) (by simp)) (by simp; omega) hrl3 (fun g5 cap5 W5 ho5 hg5 hm5 => ?_)
          try simp only [Act.put, List.setIfInBounds_toArray, List.set_cons_zero, List.set_cons_succ]
          obtain ⟨⟨k1, k2, k3⟩, ⟨k4, k5, k6⟩, k7, k8, k9, k10, k11⟩ := rows_grow (by omega) HQ6.out U9 H3.out H4.out H5.out H1.out H2.out h8 rfl (HQ6.out ▸ HZ.out) HR6.out hg5 ho5
          have c5 : W5.cell? ⟨q, 1, none⟩ = some (.slice up un uc) := k1.cell 1
          have f5 := k1.free 1
          have KK := Lib.hid (And.intro k4 (And.intro k5 (And.intro k6 (And.intro k7 (And.intro k8 (And.intro k9 (And.intro k10 k11)))))))
          clear k4 k5 k6 k7 k8 k9 k10 k11 ho5 hg5
          refine hK.out _ _ ⟨k2.cell 0, k3.cell 0, k3.cell 1⟩ (fun _ => ?_)
          clear hK K k1
          try simp only [Act.put, List.setIfInBounds_toArray, List.set_cons_zero, List.set_cons_succ]
          refine wpAnyH_take (i := 8) (v := .pointer (some ⟨q, 0, none⟩)) rfl (by kernel_rfl) (by kernel_rfl) (by kernel_rfl) (fun _ _ _ h => h) (Or.inl ⟨by rfl, fun w hS => by obtain ⟨s1, s2, s3⟩ := hS; go_simp⟩) ⟨k2.cell 0, k3.cell 0, k3.cell 1⟩ ?_
          try simp only [Act.put, List.setIfInBounds_toArray, List.set_cons_zero, List.set_cons_succ]
          refine wpAnyH_take (i := 9) (v := .pointer (some ⟨q, 1, none⟩)) rfl (by kernel_rfl) (by kernel_rfl) (by kernel_rfl) (fun _ _ _ h => h) (Or.inl ⟨by rfl, fun w hS => by obtain ⟨s1, s2, s3⟩ := hS; go_simp⟩) ⟨k2.cell 0, k3.cell 0, k3.cell 1⟩ ?_
          try simp only [Act.put, List.setIfInBounds_toArray, List.set_cons_zero, List.set_cons_succ]
          clear k2 k3
          refine wpAnyH_ready (rs := [10]) (by kernel_rfl) (by simp) ?_
          refine AllReadyH.cons rfl (fun K hK => ?_) AllReadyH.nil
          go_simp
          refine hK.out _ _ ⟨KK.out.2.1.cell 0, KK.out.2.2.1.cell 0, KK.out.2.2.1.cell 1⟩ (fun _ => ?_)
          clear hK K
          try simp only [Act.put, List.setIfInBounds_toArray, List.set_cons_zero, List.set_cons_succ]
          refine wpAnyH_done (by kernel_rfl) ?_ _
          refine ⟨KK.out.2.2.2.2.2.2.1, _, _, KK.out.1, KK.out.2.1, KK.out.2.2.2.1, ?_, KK.out.2.2.2.2.2.1, ?_, KK.out.2.2.2.2.2.2.2 w h7 hqw U7.size, Nat.le_trans h8 KK.out.2.2.2.2.2.2.1.toLow.size⟩
          · rw [rowsT_one, Nat.zero_add, HNA.out]
            exact KK.out.2.2.2.2.1
          · rw [rowsT_one, tot_one, Nat.zero_add]
            exact H6.out.next (HSS.out ▸ uniq_strict true xs) HPC.out

end Go.Proofs.Ytpoogkgekeocbaa
