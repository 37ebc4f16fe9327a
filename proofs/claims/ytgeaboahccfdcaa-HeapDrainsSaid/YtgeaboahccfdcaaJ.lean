/- Drain: the iterator. before and Check leave nothing behind but draws. -/
import Derived.Test.YtgeaboahccfdcaaH
import Derived.Test.YtgeaboahccfdcaaRange2
namespace Go.Proofs.Ytgeaboahccfdcaa
open Go.RowKit

theorem HeapAt.drewN {w : World} {t h v xs} (H : HeapAt w t h v xs) (n : Nat) : HeapAt (w.drewN n) t h v xs := ⟨H.row, H.own, H.ne, H.len⟩

set_option maxHeartbeats 1000000 in
theorem before_q (t : Bool) (h : Nat) (v : Value) (xs : List Int) (i k : Nat) (a1 b1 : Int) (w : World) (H : HeapAt w t h v xs) (hi : i < xs.length) (hk : k < xs.length) (ha : a1 = i) (hb : b1 = k) :
    Calls Try.prog 24 #[.pointer (some ⟨h, 0, none⟩), .int .i64 a1, .int .i64 b1] w fun e w' => e = .returned (.bool (bef t (nth xs i) (nth xs k))) ∧ ∃ m, w' = w.drewN m := by
  subst ha hb
  have c0 := H.c0
  have c1 := H.c1
  have hlen := H.len
  obtain ⟨g, cap, rfl, hcap, hg, hcell, _⟩ := H.own.spot (by omega)
  have ci := hcell i _ (nth_get hi)
  have ck := hcell k _ (nth_get hk)
  generalize nth xs i = a at ci ⊢
  generalize nth xs k = b at ck ⊢
  clear hcell H
  cases t with
  | false =>
    have e : decide (cmpI a b < 0) = bef false a b := by
      unfold bef kd cmpI
      simp only [Bool.false_eq_true, if_false]
      split
      · rename_i h1; simp [h1]
      · rename_i h1; rw [decide_eq_false h1]; split <;> rfl
    rw [← e]
    have c0' : w.cell? ⟨h, 0, none⟩ = some (.func (.func 9) #[] #[]) := c0
    clear c0 e
    go_enter Try.func24, Try.ntmps24
    go_wp2_with fail
    go_quiet ((go_at_call 9; first | exact Calls.quiet_of_same (compare_any _ _ _)))
    go_wp2_with fail
    go_ret
    exact ⟨rfl, _, rfl⟩
  | true =>
    have e : decide (cmpI b a < 0) = bef true a b := by
      unfold bef kd cmpI
      simp only [if_true]
      split
      · rename_i h1; rw [decide_eq_true (by omega : -a < -b)]; rfl
      · rename_i h1; rw [decide_eq_false (by omega : ¬ -a < -b)]; split <;> rfl
    rw [← e]
    have c0' : w.cell? ⟨h, 0, none⟩ = some (.func (.func 19) #[] #[]) := c0
    clear c0 e
    go_enter Try.func24, Try.ntmps24
    go_wp2_with fail
    go_quiet ((go_at_call 19; first | exact Calls.quiet_of_same (turned_any _ _ _)))
    go_wp2_with fail
    go_ret
    exact ⟨rfl, _, rfl⟩

set_option maxHeartbeats 1000000 in
theorem check_q (t : Bool) (h : Nat) (v : Value) (xs : List Int) (w : World) (H : HeapAt w t h v xs) :
    Calls Try.prog 11 #[.pointer (some ⟨h, 0, none⟩)] w fun e w' => e = .returned (.bool (heapB t xs)) ∧ ∃ m, w' = w.drewN m := by
  have hlen := H.len
  have HH := Lib.hid H
  clear H
  go_enter Try.func11, Try.ntmps11
  go_wp2_with fail
  go_loopw [3] (fun u3 wr => ∃ k : Nat, 1 ≤ k ∧ (k ≤ xs.length ∨ k = 1) ∧ u3 = .int .i64 k ∧ (∀ c, c < k → c < xs.length → 0 < c → kd t (nth xs ((c - 1) / 2)) ≤ kd t (nth xs c)) ∧ ∃ m, wr = w.drewN m) (fun u3 _ => xs.length - (intOf u3).toNat)
  case atStart => exact ⟨1, Nat.le_refl _, .inr rfl, rfl, fun c h1 h2 h3 => by omega, 0, rfl⟩
  case round =>
    obtain ⟨k, hk1, hk2, rfl, hup, m, hm⟩ := hrel
    have H : HeapAt wr t h v xs := by rw [hm]; exact HH.out.drewN m
    have HM := Lib.hid hm
    have HU := Lib.hid hup
    have c1 := H.c1
    obtain ⟨p, c, rfl, _⟩ := H.own.view
    clear hup hm
    by_cases hkl : k < xs.length
    · obtain ⟨j, rfl⟩ : ∃ j, k = j + 1 := ⟨k - 1, by omega⟩
      have e1 : (j : Int).tdiv 2 = ((j / 2 : Nat) : Int) := rfl
      have ep : (j + 1 - 1) / 2 = j / 2 := by rw [Nat.add_sub_cancel]
      generalize hq : j / 2 = q at e1 ep
      have hqj : q ≤ j := by omega
      have hlt : decide ((j : Int) + 1 < (xs.length : Int)) = true := decide_eq_true (by omega)
      have HQ := Lib.hid hq
      have HEP := Lib.hid ep
      clear hq ep hk2
      go_wp2_with fail
      refine (before_q t h _ xs (j + 1) q _ _ wr H hkl (by omega) (by omega) (by omega)).mono ?_
      rintro e w1 ⟨rfl, m1, hm1⟩
      have hm2 : w1 = w.drewN (m + m1) := by rw [hm1, HM.out, World.drewN_drewN]
      have HM2 := Lib.hid hm2
      clear H c1 hm1 hm2
      cases hb : bef t (nth xs (j + 1)) (nth xs q) with
      | true =>
        have hf : heapB t xs = false := by
          unfold heapB
          refine decide_eq_false fun h => ?_
          have := h (j + 1) hkl (by omega)
          rw [HEP.out] at this
          unfold bef at hb
          have := of_decide_eq_true hb
          omega
        have HF := Lib.hid hf
        clear hf hb
        go_wp2_with fail
        go_ret
        exact ⟨ret_bool HF.out.symm, _, HM2.out⟩
      | false =>
        unfold bef at hb
        rw [decide_eq_false_iff_not] at hb
        have HB := Lib.hid (Int.not_lt.1 hb)
        clear hb
        go_wp2_with fail
        go_roundw
        case rel =>
          refine ⟨j + 1 + 1, by omega, by omega, by go_num, fun c h1 h2 h3 => ?_, _, HM2.out⟩
          by_cases e : c = j + 1
          · subst e
            rw [HEP.out]
            exact HB.out
          · exact HU.out c (by omega) h2 h3
        case measure => simp [intOf]; omega
    · have ht : heapB t xs = true := by
        unfold heapB
        exact decide_eq_true fun c h1 h2 => HU.out c (by omega) h1 h2
      have HT := Lib.hid ht
      clear ht
      go_wp2_with fail
      go_ret
      exact ⟨ret_bool HT.out.symm, _, HM.out⟩

/-- What has come, and what is left. -/
structure Drained (t : Bool) (xs0 pre ys : List Int) : Prop where
  perm : (pre ++ ys).Perm xs0
  le : ∀ a, a ∈ pre → ∀ b, b ∈ ys → kd t a ≤ kd t b
  rises : pre.Pairwise fun a b => kd t a ≤ kd t b

theorem Drained.start (t : Bool) (xs : List Int) : Drained t xs [] xs := ⟨List.Perm.refl _, fun a h => by simp at h, List.Pairwise.nil⟩

theorem Drained.next {t : Bool} {xs0 pre ys zs : List Int} (D : Drained t xs0 pre ys) (hh : IsHeap t ys) (hp : (nth ys 0 :: zs).Perm ys) : Drained t xs0 (pre ++ [nth ys 0]) zs := by
  have hroot : ∀ b, b ∈ ys → kd t (nth ys 0) ≤ kd t b := by
    intro b hb
    obtain ⟨i, hi⟩ := List.getElem?_of_mem hb
    have := hh.root i (List.getElem?_eq_some_iff.1 hi).1
    rwa [nth_of hi] at this
  refine ⟨?_, fun a ha b hb => ?_, ?_⟩
  · have h1 : ((pre ++ [nth ys 0]) ++ zs).Perm (pre ++ ys) := by
      rw [List.append_assoc]
      exact List.Perm.append_left pre hp
    exact h1.trans D.perm
  · have hby : b ∈ ys := hp.mem_iff.1 (List.mem_cons_of_mem _ hb)
    rcases List.mem_append.1 ha with h | h
    · exact D.le a h b hby
    · rw [List.mem_singleton] at h
      subst h
      exact hroot b hby
  · rw [List.pairwise_append]
    refine ⟨D.rises, List.pairwise_singleton _ _, fun a ha b hb => ?_⟩
    rw [List.mem_singleton] at hb
    subst hb
    exact D.le a ha _ (hp.mem_iff.1 List.mem_cons_self)

theorem drain_any (h : Nat) (w : World) :
    Calls Try.prog 18 #[.pointer (some ⟨h, 0, none⟩)] w fun e w' => e = .returned (.func (.func 28) #[] #[.pointer (some ⟨w.heap.size, 0, none⟩)]) ∧ w' = w.alloc (.cells #[.pointer (some ⟨h, 0, none⟩)] 25 (0, 0)) := by
  go_enter Try.func18, Try.ntmps18
  go_wp2
  go_ret
  exact ⟨rfl, rfl⟩

/-- The heap stands somewhere in between. -/
def DAt (t : Bool) (h : Nat) (v : Value) (xs0 pre ys : List Int) (W : World) : Prop := ∃ vv, HeapAt W t h vv ys ∧ vv.ownBlock = v.ownBlock ∧ IsHeap t ys ∧ Drained t xs0 pre ys

theorem DAt.upd {t h v xs0 pre ys S} {W W' : World} (D : DAt t h v xs0 pre ys W) (u : Upd S W W') (hn : ∀ z, z ∈ bk h v → z ∉ S) : DAt t h v xs0 pre ys W' := by
  obtain ⟨vv, H, e, r⟩ := D
  exact ⟨vv, H.upd u (by unfold bk at hn ⊢; rw [e]; exact hn), e, r⟩
theorem DAt.keptF {t h v xs0 pre ys B} {W W' : World} (D : DAt t h v xs0 pre ys W) (u : UpdF [] B W W') : DAt t h v xs0 pre ys W' := by
  obtain ⟨vv, H, e, r⟩ := D
  exact ⟨vv, ⟨u.row H.row (by simp), H.own.keptF u (by simp), H.ne, H.len⟩, e, r⟩
theorem DAt.low {t h v xs0 pre ys B X} {W W' : World} (D : DAt t h v xs0 pre ys W) (l : Low X B W W') (hb : ∀ z, z ∈ bk h v → z < B) (hn : ∀ z, z ∈ bk h v → z ∉ X) : DAt t h v xs0 pre ys W' := by
  obtain ⟨vv, H, e, r⟩ := D
  have hbk : bk h vv = bk h v := by unfold bk; rw [e]
  refine ⟨vv, ⟨l.row H.row (hb h (by simp [bk])) (hn h (by simp [bk])), ?_, H.ne, H.len⟩, e, r⟩
  refine ⟨H.own.1, ?_⟩
  rcases H.own.2 with h2 | ⟨g, cap, cur, he, hgb, hg, r2⟩
  · exact .inl h2
  · have hgm : g ∈ bk h v := by rw [← hbk, he]; simp [bk, Value.ownBlock]
    exact .inr ⟨g, cap, cur, he, hgb, (l.low g (Array.getElem?_eq_some_iff.1 hg).1 (hb g hgm) (hn g hgm)).trans hg, r2⟩

def lenAt (h : Nat) (w : World) : Nat := match w.cell? ⟨h, 1, none⟩ with | some (.slice _ n _) => n | _ => 0
theorem DAt.lenAt {t h v xs0 pre ys} {W : World} (D : DAt t h v xs0 pre ys W) : lenAt h W = ys.length := by
  obtain ⟨vv, H, _, _⟩ := D
  obtain ⟨p, c, rfl, _⟩ := H.own.view
  unfold Ytgeaboahccfdcaa.lenAt
  rw [H.c1]

set_option maxRecDepth 100000 in
set_option maxHeartbeats 1000000 in
theorem drain_iter (n' : Nat) (t : Bool) (h q : Nat) (v : Value) (xs0 : List Int) (X : List Nat) (w : World) (H : HeapAt w t h v xs0) (hh : IsHeap t xs0) (hq : IsRow w q 25 [.pointer (some ⟨h, 0, none⟩)]) (hqb : q ∉ bk h v)
    (hX : ∀ z, z ∈ q :: bk h v → z ∉ X) :
    Iter2 n' Try.prog 28 #[.pointer (some ⟨q, 0, none⟩)] (fun y : Int => #[.int .i64 y]) (bk h v) X (fun pre y W => ∃ ys, DAt t h v xs0 (pre ++ [y]) ys W) (fun pre W => DAt t h v xs0 pre [] W) (fun pre W => ∃ ys, DAt t h v xs0 pre ys W) w := by
  intro l B J Jx W hW hB hJ hJx hY h0
  have hlt := H.lt
  have hqlt := hq.lt
  have D0 : DAt t h v xs0 [] xs0 W := ⟨v, H.upd hW (by simp), rfl, hh, Drained.start _ _⟩
  have q0 := hq.upd hW (by simp)
  have HY := Lib.hid hY
  have HJ := Lib.hid hJ
  have HX := Lib.hid hX
  have HLT := Lib.hid hlt
  have HQB := Lib.hid hqb
  clear hY hJ hJx hX hlt hqb hW hB H hh hq
  refine callsIn_wide.2 ?_
  show Calls Try.prog 28 #[.func (.yield l) #[] #[], .pointer (some ⟨q, 0, none⟩)] W _
  go_enter Try.func28, Try.ntmps28
  go_wp2_with fail
  go_loopw [3] (fun _ wr => ∃ (pre ys : List Int), J pre wr ∧ DAt t h v xs0 pre ys wr ∧ IsRow wr q 25 [.pointer (some ⟨h, 0, none⟩)]) (fun _ wr => lenAt h wr)
  case atStart => exact ⟨[], xs0, h0, D0, q0⟩
  case round =>
    clear h0 D0 q0
    obtain ⟨pre, ys, hj, D, hq⟩ := hrel
    have hla := D.lenAt
    obtain ⟨vv, H, hvv, hh, hdr⟩ := D
    have cq : wr.cell? ⟨q, 0, none⟩ = some (.pointer (some ⟨h, 0, none⟩)) := hq.cell 0
    have hbk : bk h vv = bk h v := by unfold bk; rw [hvv]
    have HD := Lib.hid hdr
    have HBK := Lib.hid hbk
    have HVV := Lib.hid hvv
    have HHH := Lib.hid hh
    have HQ := Lib.hid hq
    have HLA := Lib.hid hla
    have H0 := Lib.hid H
    clear hdr hbk hvv hh hq hla H
    by_cases hy0 : 0 < ys.length
    · have hd : decide (0 < ys.length) = true := decide_eq_true hy0
      have HDT := Lib.hid hd
      have HY0 := Lib.hid hy0
      clear hd hy0
      refine (wpIn_wide (n := n')).1 ?_
      gi_wp2_with (refine ⟨trivial, fun hh => by simp [Fence.wide] at hh, ?_⟩; refine CallsIn.mono (callsIn_wide.2 (pop_any t h vv ys wr H0.out HHH.out)) ?_; rintro e w2 ⟨rfl, ⟨v', zs, H2, hh2, hp2, hz2, hm2⟩, U2⟩; rw [HDT.out])
      rw [HBK.out] at U2
      have hj2 : J pre w2 := HJ.out _ _ _ hj U2
      have D2 : DAt t h v xs0 (pre ++ [nth ys 0]) zs w2 := ⟨v', H2, hm2.trans HVV.out, hh2, HD.out.next HHH.out (hp2 HY0.out)⟩
      have q2 := HQ.out.upd U2 HQB.out
      have hzl : zs.length + 1 = ys.length := by
        have := (hp2 HY0.out).length_eq
        simpa using this
      obtain ⟨fn, tmps, assign, body, hy, hR⟩ := HY.out pre (nth ys 0) w2 hj2 ⟨zs, D2⟩
      skip
      have HR := Lib.hid hR
      have HD2 := Lib.hid D2
      have HQ2 := Lib.hid q2
      have HZL := Lib.hid hzl
      clear hR D2 q2 hzl H2 hh2 hp2 hz2 hm2 U2 hj hj2 cq
      rw [hy]
      refine ⟨fun hh => by simp [Fence.wide] at hh, HR.out.mono ?_⟩
      rintro e W3 (⟨rfl, hj3, hl3⟩ | ⟨rfl, hx3, hl3⟩)
      · have D3 := HD2.out.low hl3 HLT.out (fun z hz => HX.out z (List.mem_cons_of_mem _ hz))
        have q3 := hl3.row HQ2.out hqlt (HX.out q List.mem_cons_self)
        have hl3' := D3.lenAt
        have HF := Lib.hid (And.intro hj3 (And.intro D3 q3))
        have HL3 := Lib.hid hl3'
        clear hy hl3 hj3 D3 q3 hl3'
        gi_wp2
        go_roundw
        case rel => exact ⟨_, zs, HF.out.1, HF.out.2.1, HF.out.2.2⟩
        case measure => rw [HL3.out, HLA.out]; have := HZL.out; omega
      · have D3 := HD2.out.low hl3 HLT.out (fun z hz => HX.out z (List.mem_cons_of_mem _ hz))
        have HF := Lib.hid (And.intro hx3 D3)
        clear hy hl3 hx3 D3
        gi_wp2
        refine bodyPost_ret (results_none rfl _ _ _) rfl ?_
        exact ⟨⟨_, rfl⟩, .inr ⟨_, ⟨zs, HF.out.2⟩, HF.out.1⟩⟩
    · have hy2 : ys.length = 0 := by omega
      have hd : decide (0 < ys.length) = false := decide_eq_false hy0
      have hye : ys = [] := List.eq_nil_of_length_eq_zero hy2
      have HDF := Lib.hid hd
      have HYE := Lib.hid hye
      have HY2 := Lib.hid hy2
      clear hd hye hy0 hy2
      go_wp2_with fail
      refine (pop_any t h vv ys wr H0.out HHH.out).mono ?_
      rintro e w2 ⟨rfl, ⟨v', zs, H2, hh2, hp2, hz2, hm2⟩, U2⟩
      rw [HDF.out]
      rw [HBK.out] at U2
      have hj2 : J pre w2 := HJ.out _ _ _ hj U2
      have hze := hz2 HY2.out
      have hd2 := HD.out
      rw [hze] at H2 hh2
      rw [HYE.out] at hd2
      have HF := Lib.hid (And.intro hj2 (show DAt t h v xs0 pre [] w2 from ⟨v', H2, hm2.trans HVV.out, hh2, hd2⟩))
      clear H2 hh2 hp2 hz2 hm2 U2 hj hj2 cq hze hd2
      generalize nth ys 0 = y0
      go_wp2_with fail
      refine bodyPost_ret (results_none rfl _ _ _) rfl ?_
      exact ⟨⟨_, rfl⟩, .inl ⟨pre, HF.out.2, HF.out.1⟩⟩

end Go.Proofs.Ytgeaboahccfdcaa
