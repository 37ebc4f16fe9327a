/- Groups: what the iterator does. -/
import Derived.Test.YtlafnjkcogdljaaH
namespace Go.Proofs.Ytlafnjkcogdljaa
open Go.RowKit

/-- What is known of the group that comes next. -/
def GAdm (x : List Nat) (B : Nat) (pre : List (Value × List Nat)) (y : Value × List Nat) (W : World) : Prop :=
  y.2 = grp x pre.length ∧ pre.length < cntX x ∧ Own W B y.1 y.2

set_option maxRecDepth 100000 in
set_option maxHeartbeats 400000 in
theorem groups_iter (n' : Nat) (w : World) (s b n q : Nat) (x : List Nat) (X : List Nat) (h : SetsAt w s b n x) (hn : n ≤ 1048576) (hq : IsRow w q 24 [.pointer (some ⟨s, 0, none⟩)])
    (hX : ∀ k, k ∈ X → k < w.heap.size) :
    Iter n' Try.prog 25 #[.pointer (some ⟨q, 0, none⟩)] (fun y : Value × List Nat => #[y.1]) [s, b] X (GAdm x w.heap.size) (fun xs => xs.length = cntX x) (fun _ => True) w := by
  intro l B J Jx W hW hB hJ hJx hY h0
  have hqs : q ∉ [s, b] := by
    obtain ⟨_, _, _, _, _, r, _⟩ := h
    intro e
    rcases List.mem_cons.1 e with e | e
    · subst e
      have h1 := hq.cell 0
      rw [r.hs.cell 0] at h1
      simp at h1
    · have e' : q = b := by simpa using e
      subst e'
      have h1 : w.heap[q]? = _ := hq
      have h2 : w.heap[q]? = _ := r.hb
      rw [h1] at h2
      simp at h2
  have h1 := h.upd hW (by simp) (by simp)
  have hq1 := hq.upd hW (by simp)
  have hXW : ∀ k, k ∈ X → k < W.heap.size := fun k hk => Nat.lt_of_lt_of_le (hX k hk) hW.size
  have hwW := hW.size
  have HY := Lib.hid hY
  have HJ := Lib.hid hJ
  have HXW := Lib.hid hXW
  have HQS := Lib.hid hqs
  clear hY hJ hJx hXW hX h hq hW hB hqs
  refine callsIn_wide.2 ?_
  have cc := h1.cc
  have cq : W.cell? ⟨q, 0, none⟩ = some (.pointer (some ⟨s, 0, none⟩)) := hq1.cell 0
  have hc1 : cntX x ≤ n := by have := cntTo_le x x.length; have := h1.len; unfold cntX; omega
  obtain ⟨c, hclen, hcv, hmk⟩ := make_rows (cntX x) (by omega) W
  have HCL := Lib.hid hclen
  have HCV := Lib.hid hcv
  clear hclen hcv
  have cq2 : (W.alloc (.cells c.toArray 26 (0, 0))).cell? ⟨q, 0, none⟩ = some (.pointer (some ⟨s, 0, none⟩)) := (hq1.alloc _).cell 0
  show Calls Try.prog 25 #[.func (.yield l) #[] #[], .pointer (some ⟨q, 0, none⟩)] W _
  go_enter Try.func25, Try.ntmps25
  go_wp2_with fail
  have U1 : Upd [] W (W.alloc (.cells c.toArray 26 (0, 0))) := (Upd.refl [] W).alloc _
  have hr1 := IsRow.new W c 26
  have h2 := h1.upd U1 (by simp) (by simp)
  have hsb := h1.lt
  obtain ⟨gb, hgb⟩ : ∃ g, g = W.heap.size := ⟨_, rfl⟩
  rw [← hgb] at hr1 hsb ⊢
  have hgs : gb ∉ [s, b] := by simp; omega
  have hgw : w.heap.size ≤ gb := by omega
  have HGB := Lib.hid hgb
  have HGS := Lib.hid hgs
  clear hmk cq2 hgb hgs h1 cc cq hsb
  generalize W.alloc (.cells c.toArray 26 (0, 0)) = W1 at U1 hr1 h2 ⊢
  refine (numbers_any s b n x W1 h2 hn).mono ?_
  rintro e W2 ⟨⟨v, rfl, ho⟩, h3, U2⟩
  obtain ⟨np, ncap, rfl, _⟩ := ho.read
  have hr2 := hr1.upd U2 HGS.out
  have hnl : (numbersX x).length = n := by rw [numbersX_len]; exact h3.len
  have hxl : x.length = n := h3.len
  have U3 : Upd [s, b] W W2 := (U1.mono (by simp)).trans U2
  have hle := hr1.lt
  obtain ⟨BB, hBB⟩ : ∃ g, g = W2.heap.size := ⟨_, rfl⟩
  have hgB : gb < BB := by have := U2.size; omega
  have hBB2 : BB ≤ W2.heap.size := by omega
  rw [hnl]
  have HNL := Lib.hid hnl
  have HXL := Lib.hid hxl
  have HBB := Lib.hid hBB
  have hg0 := GroupsAt.start (x := x) hr2 hgB HCL.out HCV.out
  have hnums : ∀ (k m : Nat), (numbersX x)[k]? = some m → ∃ g, np = some ⟨g, 0, none⟩ ∧ g < BB ∧ g ≠ gb ∧ W2.cell? ⟨g, k, none⟩ = some (.int .i64 (m : Nat)) := by
    intro k m hkm
    obtain ⟨g, hg1, hg2, hg3, hg4⟩ := Own.at' ho hkm
    exact ⟨g, hg1, by omega, by have := hr1.lt; omega, hg4 k m hkm⟩
  have HNU := Lib.hid hnums
  clear hnums
  have hlx := h3.leasts
  clear hnl hxl hBB hr1 hr2 h2 U1 U2 ho h3
  obtain ⟨i0, hi, hz0, hz1, hz2⟩ := info_parts Try.info3
  go_wp2_with fail
  go_loopw [16] (fun i wr => ∃ k : Nat, k ≤ n ∧ i = .int .i64 k ∧ ∃ vs, GroupsAt wr gb BB vs x k ∧ Upd [gb] W2 wr) (fun i _ => n - (intOf i).toNat)
  case atStart => exact ⟨0, Nat.zero_le _, rfl, c, hg0, Upd.refl _ _⟩
  case round =>
    obtain ⟨k, hk, rfl, vs, hg, U4⟩ := hrel
    clear hg0
    by_cases hkn : k < n
    · have hkx : k < x.length := by have := HXL.out; omega
      have hnk := num_at hkx
      obtain ⟨g, rfl, hgBB, hgg, hcg⟩ := HNU.out k _ hnk
      have cg := U4.cell' hcg (by simpa using hgg)
      obtain ⟨m, hm⟩ : ∃ m, m = num x k := ⟨_, rfl⟩
      rw [← hm] at cg
      have hmc : m < cntX x := by rw [hm]; exact num_lt hlx hkx
      obtain ⟨v, hv⟩ : ∃ v, vs[m]? = some v := ⟨vs[m]'(by rw [hg.len]; exact hmc), List.getElem?_eq_getElem _⟩
      obtain ⟨vp, vcap, rfl, _⟩ := (hg.own m v hv).read
      have cv := (hg.row.cell m).trans hv
      have hown1 := hg.own m _ hv
      unfold Own at hown1
      have hgl := grpTo_len x k m
      have hsz := U4.size
      have HM := Lib.hid hm
      have HV := Lib.hid hv
      clear hnk hcg hm hv
      go_wp2_with (at_builtin; refine wpList_append_own_at _ rfl _ _ 26 rfl BB 3 i0 (.int .i64 0) 1 8 Try.underlying26 hi hz0 hz1 hz2 rfl (by decide) _ _ _ rfl (hown1.alloc _) ⟨wr.heap.size, 0, none⟩ 1 1 [.int .i64 k] rfl rfl (one_at _ _ _) (by simp [Value.oneCell']) (by unfold maxLen; omega) (by omega) ?c5 ?_)
      case c5 => first | omega | (simp; omega)
      intro v' w1 hown' hgrow _ hat
      have hrow1 := hg.row_app HV.out hgrow
      have hst := hg.step HM.out.symm HV.out hown' hgrow hat
      have hup := hg.upd_app HV.out hgrow U4 (by have := HBB.out; omega) v'
      obtain ⟨g', cap', rfl⟩ := ownsRow_succ hown'
      have c1 := (hrow1.cell m).trans HV.out
      have f1 := hrow1.free m
      clear hown' hgrow hat hg U4 cv cg hown1
      go_wp2
      go_roundw
      case rel => exact ⟨k + 1, by omega, by go_num, _, hst, hup⟩
      case measure => simp [intOf]; omega
    · have hke : n = k := by omega
      subst hke
      have U5 : Upd [s, b] W wr := ((U3.mono (S' := [s, b, gb]) (by simp)).trans (U4.mono (by simp))).shrink (by have := HGB.out; simp; omega)
      have hj0 := HJ.out _ _ _ h0 U5
      clear U3 U4 U5 h0 HNU
      as_aux_lemma =>
        go_wp2_with fail
        go_loopw [34] (fun i wr => ∃ k : Nat, k ≤ cntX x ∧ i = .int .i64 k ∧ ∃ pre : List (Value × List Nat), pre.length = k ∧ J pre wr ∧ GroupsAt wr gb BB vs x n) (fun i _ => cntX x - (intOf i).toNat)
        case atStart => exact ⟨0, Nat.zero_le _, rfl, [], rfl, hj0, hg⟩
        case round =>
          obtain ⟨k, hk, rfl, pre, hpre, hj, hg⟩ := hrel
          clear hj0
          by_cases hkc : k < cntX x
          · obtain ⟨v, hv⟩ : ∃ v, vs[k]? = some v := ⟨vs[k]'(by rw [hg.len]; exact hkc), List.getElem?_eq_getElem _⟩
            have hgo := hg.own k v hv
            have hadm : GAdm x w.heap.size pre (v, grp x k) _ := ⟨by rw [hpre], by rw [hpre]; exact hkc, by have e := HXL.out; unfold grp; rw [e]; exact hgo.mono (by have := hg.lt; omega)⟩
            obtain ⟨fn, tmps, assign, body, hy, hR⟩ := HY.out pre (v, grp x k) _ hj hadm
            have cv := (hg.row.cell k).trans hv
            obtain ⟨vp, vcap, rfl, _⟩ := hgo.read
            dsimp only at hy hR
            have HR := Lib.hid hR
            clear hR
            have HP := Lib.hid hpre
            have HV := Lib.hid hv
            clear hpre hv hgo hadm
            refine (wpIn_wide (n := n')).1 ?_
            gi_wp2
            refine ⟨fun hh => by simp [Fence.wide] at hh, HR.out.mono ?_⟩
            rintro e W3 (⟨rfl, hj3, hk3⟩ | ⟨rfl, hx3⟩)
            · have hg3 := hg.keptF hk3 (fun z hz => by have := HXW.out z hz; have := HGB.out; omega)
              clear cv hy hj hk3
              gi_wp2
              go_roundw
              case rel => exact ⟨k + 1, by omega, by go_num, _, by simp; exact HP.out, hj3, hg3⟩
              case measure => simp [intOf]; omega
            · clear cv hy hj hg
              gi_wp2
              refine bodyPost_ret (results_none rfl _ _ _) rfl ?_
              exact ⟨⟨_, rfl⟩, .inr ⟨_, trivial, hx3⟩⟩
          · have hkc' : cntX x = k := by omega
            have HP := Lib.hid hpre
            clear hpre
            go_wp2
            go_end0
            exact ⟨⟨_, rfl⟩, .inl ⟨pre, by rw [HP.out]; exact hkc'.symm, hj⟩⟩

end Go.Proofs.Ytlafnjkcogdljaa
