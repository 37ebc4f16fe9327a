/- Push, Pop, Swap, New. -/
import Derived.Test.YtgeaboahccfdcaaD
namespace Go.Proofs.Ytgeaboahccfdcaa
open Go.RowKit

theorem wpList_append_at {ops : Array Oper} {rest : List Oper} {o : Oper} {a : Act} {Q : Exit → Act → World → Prop} {w : World} {u : Int} (hgd : o.guard = none) (s x : Operand)
    (ho : o.op = .call { callee := .builtin .append, args := #[s, x], argTypes := #[22, 22] })
    (B : Nat) (v : Value) (xs : List Int) (b c : Nat) (hs : a.eval s = v) (hx : a.eval x = .slice (some ⟨b, 0, none⟩) 1 c) (hc : w.cell? ⟨b, 0, none⟩ = some (.int .i64 u))
    (hown : Own w B v xs) (hB : B ≤ w.heap.size) (hn : xs.length + 1 ≤ 1048576)
    (h : ∀ g cap w', Own w' B (.slice (some ⟨g, 0, none⟩) (xs.length + 1) cap) (xs ++ [u]) → w.grownBy w' v.ownBlock → (v.ownBlock = some g ∨ g = w.heap.size) → wpList Try.prog ops Q rest (a.put o.dst (.slice (some ⟨g, 0, none⟩) (xs.length + 1) cap)) w') :
    wpList Try.prog ops Q (o :: rest) a w := by
  refine wpList_plain hgd fun _ hK => ?_
  obtain ⟨i0, hi, hz0, hz1, hz2⟩ := info_parts Try.info3
  obtain ⟨g, cap, w', hr, h2, h3, h4, _⟩ := run_append_lies (P := Try.prog) w 22 o.type B 3 i0 (.int .i64 0) 1 8 Try.underlying22 hi hz0 hz1 hz2 rfl (by decide) v xs.length (ints xs) hown
    ⟨b, 0, none⟩ 1 c [.int .i64 u] rfl (fun j v hj => by match j, hj with | 0, hj => simp at hj; subst hj; rw [add_flat]; exact hc) (by intro u hu; simp at hu; subst hu; rfl) (by omega) (by unfold maxLen; omega) (by omega) hB _ rfl
  unfold Oper.wp execOp
  simp only [ho, resolve, invoke, builtin, Sem.run_bind, Sem.run_pure, Result.andThen_ok, List.map_toArray, List.map_cons, List.map_nil, hs, hx, hr]
  refine hK _ _ (h g cap w' ?_ h3 h4)
  unfold Own
  rw [ints_append, List.length_append]
  exact h2

/-- How a heap's list may have moved: nowhere, or to a new block. -/
def Moved (w : World) (v v' : Value) : Prop := v'.ownBlock = v.ownBlock ∨ ∃ k, v'.ownBlock = some k ∧ w.heap.size ≤ k

theorem HeapAt.list {w : World} {t h v xs} (H : HeapAt w t h v xs) (v' : Value) (ys : List Int) (hne : v'.ownBlock ≠ some h) (ho : Own w 0 v' ys) (hl : ys.length ≤ 1000000) : HeapAt (w.setCell ⟨h, 1, none⟩ v') t h v' ys := by
  refine ⟨H.row.setCell_same 1 v', ho.keptNB ((Upd.refl [h] w).setCell (p := ⟨h, 1, none⟩) (by simp) v') (fun z hz e => ?_), hne, hl⟩
  rw [List.mem_singleton] at e
  subst e
  exact hne hz

set_option maxHeartbeats 1000000 in
theorem push_any (t : Bool) (h : Nat) (v : Value) (xs : List Int) (n : Int) (w : World) (H : HeapAt w t h v xs) (hh : IsHeap t xs) (hl : xs.length < 1000000) :
    Calls Try.prog 16 #[.pointer (some ⟨h, 0, none⟩), .int .i64 n] w fun e w' => (∃ r, e = .returned r) ∧ (∃ v' ys, HeapAt w' t h v' ys ∧ IsHeap t ys ∧ ys.Perm (n :: xs) ∧ Moved w v v') ∧ Upd (bk h v) w w' := by
  have c1 := H.c1
  have HH := Lib.hid H
  have hup := hh.push n
  have HU := Lib.hid hup
  have hlh := H.row.lt
  have hne := H.ne
  have hown := H.own.kept ((Upd.refl [] w).alloc (.cells #[.int .i64 n] 3)) (by simp)
  have HO := Lib.hid hown
  have HNE := Lib.hid hne
  clear H hh hup hown hne
  go_enter Try.func16, Try.ntmps16
  go_wp2_with (at_builtin; refine wpList_append_at (u := n) rfl _ _ rfl 0 v xs _ 1 (by rfl) (by rfl) (cell_new _ _ _) HO.out (Nat.zero_le _) (by omega) ?_)
  intro g cap w2 ho2 hg2 hmv
  have U2 : Upd v.ownBlock.toList w w2 := ((Upd.refl _ w).alloc _).grown hg2 (fun k hk => .inl (by simp [hk]))
  have hgh : g ≠ h := by
    rcases hmv with e | e
    · intro e2; exact HNE.out (by rw [e, e2])
    · omega
  have hnh : h ∉ v.ownBlock.toList := by simpa using HNE.out
  have r2 := HH.out.row.upd U2 hnh
  have c2 : w2.cell? ⟨h, 1, none⟩ = some v := r2.cell 1
  have f2 := r2.free 1
  have H2 : HeapAt (w2.setCell ⟨h, 1, none⟩ (.slice (some ⟨g, 0, none⟩) (xs.length + 1) cap)) t h (.slice (some ⟨g, 0, none⟩) (xs.length + 1) cap) (xs ++ [n]) := by
    refine ⟨r2.setCell_same 1 _, ho2.keptNB ((Upd.refl [h] w2).setCell (p := ⟨h, 1, none⟩) (by simp) _) (fun z hz e => ?_), fun e => hgh (Option.some.inj e), by simp; omega⟩
    rw [List.mem_singleton] at e
    subst e
    exact hgh (Option.some.inj hz)
  have U3 : Upd (bk h v) w (w2.setCell ⟨h, 1, none⟩ (.slice (some ⟨g, 0, none⟩) (xs.length + 1) cap)) := (U2.mono (S' := bk h v) (fun k hk => List.mem_cons_of_mem _ hk)).setCell (p := ⟨h, 1, none⟩) (by simp [bk]) _
  have hmv2 : Moved w v (.slice (some ⟨g, 0, none⟩) (xs.length + 1) cap) := by
    rcases hmv with e | e
    · exact .inl e.symm
    · exact .inr ⟨g, rfl, by omega⟩
  have c3 := H2.c1
  have H3 := Lib.hid H2
  have HM := Lib.hid hmv2
  clear ho2 hg2 hmv U2 hgh hnh r2 H2 hmv2 c1 HH HNE HO
  go_wp2_with fail
  refine (up_any t h _ (xs ++ [n]) xs.length _ _ H3.out HU.out (by omega)).mono ?_
  rintro e w4 ⟨⟨r, rfl⟩, ⟨ys, H4, hh4, hp4⟩, U4⟩
  have U5 : Upd (bk h v) w w4 := by
    refine ((U3.mono (S' := bk h v ++ [g]) (fun k hk => List.mem_append_left _ hk)).trans (U4.mono (S' := bk h v ++ [g]) (fun k hk => List.mem_append_right _ (by simpa [Value.ownBlock] using hk)))).shrink fun k hk hlt => ?_
    rcases List.mem_append.1 hk with e | e
    · exact e
    · rw [List.mem_singleton] at e
      subst e
      rcases HM.out with e | ⟨z, e, hz⟩
      · exact List.mem_cons_of_mem _ (by rw [← e]; simp [Value.ownBlock])
      · have e2 : k = z := Option.some.inj e
        omega
  clear U3 U4 c3 H3
  go_wp2_with fail
  go_end0
  exact ⟨⟨_, rfl⟩, ⟨_, ys, H4, hh4, hp4.trans List.perm_append_comm, HM.out⟩, U5⟩

set_option maxHeartbeats 1000000 in
theorem pop_any (t : Bool) (h : Nat) (v : Value) (xs : List Int) (w : World) (H : HeapAt w t h v xs) (hh : IsHeap t xs) :
    Calls Try.prog 17 #[.pointer (some ⟨h, 0, none⟩)] w fun e w' => e = .returned (.tuple #[.int .i64 (nth xs 0), .bool (decide (0 < xs.length))]) ∧
      (∃ v' ys, HeapAt w' t h v' ys ∧ IsHeap t ys ∧ (0 < xs.length → (nth xs 0 :: ys).Perm xs) ∧ (xs.length = 0 → ys = []) ∧ v'.ownBlock = v.ownBlock) ∧ Upd (bk h v) w w' := by
  have hlen := H.len
  by_cases h0 : 0 < xs.length
  · obtain ⟨m, hm⟩ : ∃ m, xs.length = m + 1 := ⟨xs.length - 1, by omega⟩
    obtain ⟨g, cap, rfl, hgb⟩ := H.own.first h0
    rw [hm] at H ⊢
    have hdr := hh.drop hm
    have hpm := drop_perm hm
    have HD := Lib.hid hdr
    have HP := Lib.hid hpm
    have HM := Lib.hid hm
    have HH := Lib.hid H
    have hm1 : m ≤ 1000000 := by omega
    have hr : (Ending.returned (.tuple #[.int .i64 (nth xs 0), .bool true])) = .returned (.tuple #[.int .i64 (nth xs 0), .bool (decide (0 < m + 1))]) := by rw [decide_eq_true (by omega)]
    have HR := Lib.hid hr
    have hne : g ≠ h := fun e => H.ne (by rw [e]; rfl)
    clear hdr hpm hgb H hh h0 hr hm hlen
    go_enter Try.func17, Try.ntmps17
    go_wp2_with fail
    refine (first_any t h _ xs _ HH.out).mono ?_
    rintro e w1 ⟨rfl, rfl⟩
    rw [decide_eq_true (show 0 < xs.length by have := HM.out; omega)]
    have c1 := HH.out.c1
    go_wp2_with fail
    refine (swap_at t h _ xs 0 m _ _ _ HH.out (by have := HM.out; omega) (by have := HM.out; omega) rfl (by omega)).mono ?_
    rintro e w2 ⟨⟨r, rfl⟩, H2, U2⟩
    have c2 := H2.c1
    clear c1
    go_wp2_with fail
    refine (delete_last g m cap (swp xs 0 m) _ _ _ H2.own (by rw [swp_len]; exact HM.out) hm1 (by omega) (by omega)).mono ?_
    rintro e w3 ⟨rfl, ho3, U3⟩
    have r3 := H2.row.upd U3 (by simpa using hne.symm)
    have c3 : w3.cell? ⟨h, 1, none⟩ = some (.slice (some ⟨g, 0, none⟩) (m + 1) cap) := r3.cell 1
    have f3 := r3.free 1
    have hlt : ((swp xs 0 m).take m).length = m := by rw [List.length_take, swp_len]; have := HM.out; omega
    have H4 : HeapAt (w3.setCell ⟨h, 1, none⟩ (.slice (some ⟨g, 0, none⟩) m cap)) t h (.slice (some ⟨g, 0, none⟩) m cap) ((swp xs 0 m).take m) := by
      refine ⟨r3.setCell_same 1 _, ho3.keptNB ((Upd.refl [h] w3).setCell (p := ⟨h, 1, none⟩) (by simp) _) (fun z hz e => ?_), fun e => hne (Option.some.inj e), by rw [hlt]; exact hm1⟩
      rw [List.mem_singleton] at e
      subst e
      exact hne (Option.some.inj hz)
    have U4 : Upd [h, g] w1 (w3.setCell ⟨h, 1, none⟩ (.slice (some ⟨g, 0, none⟩) m cap)) :=
      ((U2.mono (S' := [h, g]) (by simp [Value.ownBlock])).trans (U3.mono (by simp))).setCell (p := ⟨h, 1, none⟩) (by simp) _
    have HH4 := Lib.hid H4
    clear H2 U2 c2 ho3 U3 r3 H4 hlt
    go_wp2_with fail
    refine (down_any t h _ _ 0 0 _ _ HH4.out HD.out rfl (by omega)).mono ?_
    rintro e w5 ⟨⟨r5, rfl⟩, ⟨ys, H5, hh5, hp5⟩, U5⟩
    have U6 : Upd (bk h (.slice (some ⟨g, 0, none⟩) (m + 1) cap)) w1 w5 := (U4.trans (U5.mono (by simp [Value.ownBlock]))).mono (by simp [bk, Value.ownBlock])
    have HF := Lib.hid (And.intro H5 (And.intro hh5 (And.intro hp5 U6)))
    clear c3 f3 U4 U5 U6 H5 hh5 hp5
    go_wp2_with fail
    refine bodyPost_ret (v := .tuple #[.int .i64 (nth xs 0), .bool true]) (by simp [results, Try.results17, go_sem]) rfl ⟨HR.out, ⟨_, ys, HF.out.1, HF.out.2.1, fun _ => ?_, fun e => by omega, rfl⟩, HF.out.2.2.2⟩
    exact (List.Perm.cons _ HF.out.2.2.1).trans HP.out
  · have hx : xs = [] := List.eq_nil_of_length_eq_zero (by omega)
    subst hx
    have HH := Lib.hid H
    clear H h0
    go_enter Try.func17, Try.ntmps17
    go_wp2_with fail
    refine (first_any t h _ [] _ HH.out).mono ?_
    rintro e w1 ⟨rfl, rfl⟩
    have e0 : nth ([] : List Int) 0 = 0 := rfl
    have e1 : decide (0 < ([] : List Int).length) = false := rfl
    rw [e0, e1]
    go_wp2_with fail
    exact bodyPost_ret (v := .tuple #[.int .i64 0, .bool false]) (by simp [results, Try.results17, go_sem]) rfl ⟨rfl, ⟨v, [], HH.out, hh, fun h => by simp at h, fun _ => rfl, rfl⟩, Upd.refl _ _⟩

set_option maxHeartbeats 1000000 in
theorem swapin_any (t : Bool) (h : Nat) (v : Value) (xs : List Int) (n : Int) (w : World) (H : HeapAt w t h v xs) (hh : IsHeap t xs) (hl : xs.length < 1000000) :
    Calls Try.prog 20 #[.pointer (some ⟨h, 0, none⟩), .int .i64 n] w fun e w' => e = .returned (.tuple #[.int .i64 (nth xs 0), .bool (decide (0 < xs.length))]) ∧
      (∃ v' ys, HeapAt w' t h v' ys ∧ IsHeap t ys ∧ (0 < xs.length → (nth xs 0 :: ys).Perm (n :: xs)) ∧ (xs.length = 0 → ys.Perm [n]) ∧ Moved w v v') ∧ Upd (bk h v) w w' := by
  by_cases h0 : 0 < xs.length
  · obtain ⟨g, cap, rfl, hgb⟩ := H.own.first h0
    have hst := H.store n h0
    have hdn := hh.turn n h0
    have hpm := turn_perm n h0
    obtain ⟨c9, f9, c1⟩ := H.spot 0 h0
    have HST := Lib.hid hst
    have HD := Lib.hid hdn
    have HP := Lib.hid hpm
    have HH := Lib.hid H
    have hr : (Ending.returned (.tuple #[.int .i64 (nth xs 0), .bool true])) = .returned (.tuple #[.int .i64 (nth xs 0), .bool (decide (0 < xs.length))]) := by rw [decide_eq_true h0]
    have HR := Lib.hid hr
    have HDC := Lib.hid (decide_eq_true h0)
    have hz : (0 : Int) < (xs.length : Int) := by omega
    clear hst hdn hpm hgb H hh hr h0
    go_enter Try.func20, Try.ntmps20
    go_wp2_with fail
    refine (first_any t h _ xs _ HH.out).mono ?_
    rintro e w1 ⟨rfl, rfl⟩
    rw [HDC.out]
    go_wp2_with fail
    refine (down_any t h _ _ 0 0 _ _ HST.out HD.out rfl (by omega)).mono ?_
    rintro e w5 ⟨⟨r5, rfl⟩, ⟨ys, H5, hh5, hp5⟩, U5⟩
    have U6 : Upd (bk h (.slice (some ⟨g, 0, none⟩) xs.length cap)) w1 w5 := ((((Upd.refl [g] w1).setCell (p := ⟨g, 0, none⟩) (by simp) (.int .i64 n))).trans (U5.mono (by simp [Value.ownBlock]))).mono (by simp [bk, Value.ownBlock])
    have HF := Lib.hid (And.intro H5 (And.intro hh5 (And.intro hp5 U6)))
    clear c9 f9 c1 U5 U6 H5 hh5 hp5
    go_wp2_with fail
    refine bodyPost_ret (v := .tuple #[.int .i64 (nth xs 0), .bool true]) (by simp [results, Try.results20, go_sem]) rfl ⟨HR.out, ⟨_, ys, HF.out.1, HF.out.2.1, fun _ => ?_, fun e => by omega, .inl rfl⟩, HF.out.2.2.2⟩
    exact (List.Perm.cons _ HF.out.2.2.1).trans HP.out
  · have hx : xs = [] := List.eq_nil_of_length_eq_zero (by omega)
    subst hx
    have HH := Lib.hid H
    have HHH := Lib.hid hh
    clear H h0 hh
    go_enter Try.func20, Try.ntmps20
    go_wp2_with fail
    refine (first_any t h _ [] _ HH.out).mono ?_
    rintro e w1 ⟨rfl, rfl⟩
    have e0 : nth ([] : List Int) 0 = 0 := rfl
    have e1 : decide (0 < ([] : List Int).length) = false := rfl
    rw [e0, e1]
    go_wp2_with fail
    refine (push_any t h _ [] n _ HH.out HHH.out hl).mono ?_
    rintro e w2 ⟨⟨r, rfl⟩, ⟨v', ys, H2, hh2, hp2, hm2⟩, U2⟩
    have HF := Lib.hid (And.intro H2 (And.intro hh2 (And.intro hp2 (And.intro hm2 U2))))
    clear H2 hh2 hp2 hm2 U2
    go_wp2_with fail
    exact bodyPost_ret (v := .tuple #[.int .i64 0, .bool false]) (by simp [results, Try.results20, go_sem]) rfl ⟨rfl, ⟨v', ys, HF.out.1, HF.out.2.1, fun h => by simp at h, fun _ => HF.out.2.2.1, HF.out.2.2.2.1⟩, HF.out.2.2.2.2⟩

set_option maxHeartbeats 1000000 in
theorem new_any (t : Bool) (v0 : Value) (xs : List Int) (w : World) (hx : Lst w v0 xs) (hl : xs.length ≤ 1000000) :
    Calls Try.prog 8 #[ordV t, v0] w fun e w' => ∃ h v ys, e = .returned (.pointer (some ⟨h, 0, none⟩)) ∧ HeapAt w' t h v ys ∧ IsHeap t ys ∧ ys.Perm xs ∧ Upd [] w w' ∧ w.heap.size ≤ h ∧ ∀ k, v.ownBlock = some k → w.heap.size ≤ k := by
  obtain ⟨p, c, rfl, hv⟩ := hx
  have HV := Lib.hid hv
  clear hv
  have ho : ordV t = .func (.func (if t then 19 else 9)) #[] #[] := rfl
  generalize (if t then 19 else 9 : Nat) = nf at ho
  have HO := Lib.hid ho
  rw [ho]
  clear ho
  go_enter Try.func8, Try.ntmps8
  go_wp2_with fail
  refine (clone_any p c xs w HV.out (by omega)).mono ?_
  rintro e w1 ⟨⟨v, rfl, ho⟩, U1⟩
  have hfr := ho.row
  obtain ⟨vp, vc, rfl, _⟩ := ho.view
  have hlt := World.ownsRow.lt ho
  have rh := IsRow.new w1 [.func (.func nf) #[] #[], .slice vp xs.length vc] 48
  have H1 : HeapAt (w1.alloc (.cells #[.func (.func nf) #[] #[], .slice vp xs.length vc] 48)) t w1.heap.size (.slice vp xs.length vc) xs :=
    ⟨by rw [HO.out]; exact rh, (ho.kept ((Upd.refl [] w1).alloc _) (by simp)).mono (Nat.zero_le _), fun e => by have := (hlt _ e).2; omega, hl⟩
  have U2 : Upd [] w (w1.alloc (.cells #[.func (.func nf) #[] #[], .slice vp xs.length vc] 48)) := U1.alloc _
  have hws := U1.size
  obtain ⟨h, hh⟩ : ∃ z, z = w1.heap.size := ⟨_, rfl⟩
  rw [← hh] at H1 hws
  have HHH := Lib.hid hh
  have HFR := Lib.hid (fun k hk => (hfr k hk).1)
  clear hfr hlt rh U1 ho hh
  go_wp2_with fail
  rw [← HHH.out]
  generalize w1.alloc (.cells #[.func (.func nf) #[] #[], .slice vp xs.length vc] 48) = w2 at H1 U2 ⊢
  go_loopw [6] (fun u6 wr => ∃ (s : Nat) (ys : List Int), u6 = .int .i64 ((s : Int) - 1) ∧ s ≤ 1000000 ∧ HeapFrom t s ys ∧ HeapAt wr t h (.slice vp xs.length vc) ys ∧ ys.Perm xs ∧ Upd [] w wr) (fun u6 _ => (intOf u6 + 1).toNat)
  case atStart => exact ⟨xs.length / 2, xs, by first | rfl | go_num, by omega, heapFrom_high t xs, H1, List.Perm.refl _, U2⟩
  case round =>
    obtain ⟨s, ys, rfl, hs, hf, H2, hp, U3⟩ := hrel
    have HF := Lib.hid hf
    have HP := Lib.hid hp
    clear hf hp H1 U2
    match s, hs, HF with
    | 0, hs, HF =>
      have e0 : ((0 : Nat) : Int) - 1 = -1 := rfl
      rw [e0]
      go_wp2_with fail
      go_ret
      exact ⟨h, _, ys, rfl, H2, HF.out, HP.out, U3, hws, HFR.out⟩
    | j + 1, hs, HF =>
      have e0 : ((j + 1 : Nat) : Int) - 1 = (j : Int) := by omega
      rw [e0]
      have hg : decide ((0 : Int) ≤ (j : Int)) = true := decide_eq_true (by omega)
      go_wp2_with fail
      refine (down_any t h _ ys j j _ _ H2 HF.out.down rfl (by omega)).mono ?_
      rintro e w4 ⟨⟨r, rfl⟩, ⟨zs, H4, hh4, hp4⟩, U4⟩
      have U5 : Upd [] w w4 := ((U3.mono (S' := (Value.slice vp xs.length vc).ownBlock.toList) (by simp)).trans U4).shrink fun k hk hlt => by
        have := HFR.out k (by simpa using hk)
        omega
      have HH := Lib.hid (And.intro H4 (And.intro hh4 (And.intro (hp4.trans HP.out) U5)))
      clear H2 U3 H4 hh4 hp4 U4 U5
      go_wp2_with fail
      go_roundw
      case rel => exact ⟨j, zs, by first | rfl | go_num, by omega, HH.out.2.1, HH.out.1, HH.out.2.2.1, HH.out.2.2.2⟩
      case measure => simp [intOf] <;> omega

end Go.Proofs.Ytgeaboahccfdcaa
