/- Near: its iterator. -/
import Derived.Test.YtpoogkgekeocbaaWM
import Derived.Test.YtpoogkgekeocbaaRange4
import Derived.WalkMore
import Derived.Deep.LoopGhost
namespace Go.Proofs.Ytpoogkgekeocbaa
open Go.RowKit
attribute [local go_sem] Oper.semAt_some

theorem Z.View.updS {w w' : World} {p : Option Addr} {cap : Nat} {xs : List Int} {S : List Nat} (h : Z.View w p cap xs) (u : Upd S w w') (hn : ∀ b off, p = some ⟨b, off, none⟩ → b ∉ S) : Z.View w' p cap xs :=
  ⟨h.le, h.max, h.nil, fun i x hx => by
    obtain ⟨b, off, h1, h2, h3⟩ := h.cells i x hx
    exact ⟨b, off, h1, Nat.lt_of_lt_of_le h2 u.size, fun j y hy => (u.cell (p := ⟨b, off + j, none⟩) h2 (hn b off h1)).trans (h3 j y hy)⟩⟩

structure NKeep (W : World) (b1 b2 b3 s : Nat) (lo hi : Pt) (cv : Value) (rp : Option Addr) (rc : Nat) (rv : List Rw) (qs : List RowT) : Prop where
  r1 : IsRow W b1 26 [.pointer (some ⟨s, 0, none⟩)]
  r2 : IsRow W b2 24 [.int .i64 lo.1, .int .i64 lo.2]
  r3 : IsRow W b3 24 [.int .i64 hi.1, .int .i64 hi.2]
  rs : IsRow W s 61 [cv, .slice rp rv.length rc]
  v : View W rp rc rv
  z : ∀ (i : Nat) (r : Rw), rv[i]? = some r → ∃ q, qs[i]? = some q ∧ r.y = q.1 ∧ r.n = q.2.length ∧ Z.View W r.p r.c q.2

structure NFar (X : List Nat) (b1 b2 b3 s : Nat) (rp : Option Addr) (rv : List Rw) : Prop where
  n1 : b1 ∉ X
  n2 : b2 ∉ X
  n3 : b3 ∉ X
  ns : s ∉ X
  nv : ∀ b off, rp = some ⟨b, off, none⟩ → b ∉ X
  nz : ∀ (i : Nat) (r : Rw), rv[i]? = some r → ∀ b off, r.p = some ⟨b, off, none⟩ → b ∉ X
theorem NFar.nil (b1 b2 b3 s : Nat) (rp : Option Addr) (rv : List Rw) : NFar [] b1 b2 b3 s rp rv := ⟨by simp, by simp, by simp, by simp, by simp, by simp⟩

theorem NKeep.updS {W W' : World} {b1 b2 b3 s : Nat} {lo hi : Pt} {cv : Value} {rp : Option Addr} {rc : Nat} {rv : List Rw} {qs : List RowT} {X : List Nat} (h : NKeep W b1 b2 b3 s lo hi cv rp rc rv qs) (u : Upd X W W') (f : NFar X b1 b2 b3 s rp rv) :
    NKeep W' b1 b2 b3 s lo hi cv rp rc rv qs :=
  ⟨h.r1.upd u f.n1, h.r2.upd u f.n2, h.r3.upd u f.n3, h.rs.upd u f.ns, h.v.updS u (fun b off e _ => f.nv b off e), fun i r hr => by
    obtain ⟨q, h1, h2, h3, h4⟩ := h.z i r hr
    exact ⟨q, h1, h2, h3, h4.updS u (f.nz i r hr)⟩⟩
theorem NKeep.upd {W W' : World} {b1 b2 b3 s : Nat} {lo hi : Pt} {cv : Value} {rp : Option Addr} {rc : Nat} {rv : List Rw} {qs : List RowT} (h : NKeep W b1 b2 b3 s lo hi cv rp rc rv qs) (u : Upd [] W W') :
    NKeep W' b1 b2 b3 s lo hi cv rp rc rv qs := h.updS u (NFar.nil _ _ _ _ _ _)

/-- the rows' numbers rise, and are what the rows tell -/
def UpY (rv : List Rw) (qs : List RowT) : Prop := (rv.map (·.y)).Pairwise (· < ·) ∧ (rv.map (·.y)) = qs.map (·.1)

set_option maxRecDepth 100000 in
set_option maxHeartbeats 4000000 in
theorem near_iter (n' : Nat) (w : World) (b1 b2 b3 s : Nat) (lo hi : Pt) (cv : Value) (rp : Option Addr) (rc : Nat) (rv : List Rw) (qs : List RowT) (U : List Pt) (X : List Nat)
    (hk : NKeep w b1 b2 b3 s lo hi cv rp rc rv qs) (hf : NFar X b1 b2 b3 s rp rv) (hX : ∀ z, z ∈ X → z < w.heap.size) (hR : Rows U qs) (hU : Strict true U) (hlen : rv.length = qs.length) (hn : rv.length ≤ 1000000)
    (hq : ∀ q, q ∈ qs → q.2.length ≤ 1000000) (hrp : rp = none ∨ ∃ g, rp = some ⟨g, 0, none⟩) (hys : UpY rv qs) :
    Iter4 n' Try.prog 33 #[.pointer (some ⟨b1, 0, none⟩), .pointer (some ⟨b2, 0, none⟩), .pointer (some ⟨b3, 0, none⟩)] (fun y : Pt => #[pv y]) [] X (fun pre y _ => (U.filter (btw lo hi))[pre.length]? = some y) (fun ys => ys = U.filter (btw lo hi)) (fun _ => True) w := by
  intro l B J Jx W hW hB hJ hJx hY h0
  obtain ⟨lo1, lo2⟩ := lo
  obtain ⟨hi1, hi2⟩ := hi
  have HK := Lib.hid (hk.upd hW)
  have c1 : W.cell? ⟨b1, 0, none⟩ = some (.pointer (some ⟨s, 0, none⟩)) := HK.out.r1.cell 0
  have cs : W.cell? ⟨s, 1, none⟩ = some (.slice rp rv.length rc) := HK.out.rs.cell 1
  have c2 : W.cell? ⟨b2, 1, none⟩ = some (.int .i64 lo2) := HK.out.r2.cell 1
  have l1 := HK.out.r1.lt
  have ls := HK.out.rs.lt
  have l2 := HK.out.r2.lt
  have HY := Lib.hid hY
  have HJ := Lib.hid hJ
  have HF := Lib.hid hf
  have HR := Lib.hid hR
  have HUS := Lib.hid hU
  have HQL := Lib.hid hq
  have HYS := Lib.hid hys
  have HRP := Lib.hid hrp
  have HLN := Lib.hid hlen
  have HX := Lib.hid hX
  have hww := hW.size
  have H0 := Lib.hid h0
  clear hY hJ hJx hk hf hR hU hq hys hrp hX hW hB h0 hlen
  refine callsIn_wide.2 ?_
  show Calls Try.prog 33 #[.func (.yield l) #[] #[], .pointer (some ⟨b1, 0, none⟩), .pointer (some ⟨b2, 0, none⟩), .pointer (some ⟨b3, 0, none⟩)] W _
  go_enter Try.func33, Try.ntmps33
  go_step3
  go_wp2_with fail
  go_region_held3 (fun w' => w'.cell? ⟨b1, 0, none⟩ = some (.pointer (some ⟨s, 0, none⟩)) ∧ w'.cell? ⟨s, 1, none⟩ = some (.slice rp rv.length rc) ∧ w'.cell? ⟨b2, 1, none⟩ = some (.int .i64 lo2)) (first | exact ⟨c1, cs, c2⟩ | exact S9)
    (first | (go_at_call 34; refine (findr_any rp rc rv lo2 _ (HK.out.v.upd (Upd.refl [] W).drew) (by omega) HYS.out.1).mono ?_; rintro e w9 ⟨⟨fr, bb, rfl, hat⟩, U9⟩; have S9 : w9.cell? ⟨b1, 0, none⟩ = some (.pointer (some ⟨s, 0, none⟩)) ∧ w9.cell? ⟨s, 1, none⟩ = some (.slice rp rv.length rc) ∧ w9.cell? ⟨b2, 1, none⟩ = some (.int .i64 lo2) := ⟨(U9.cell (p := ⟨b1, 0, none⟩) l1 (by simp)).trans c1, (U9.cell (p := ⟨s, 1, none⟩) ls (by simp)).trans cs, (U9.cell (p := ⟨b2, 1, none⟩) l2 (by simp)).trans c2⟩))
  have UR : Upd [] W w9 := ((Upd.refl [] W).drew).trans U9
  have hj1 : J [] w9 := HJ.out _ _ _ H0.out UR
  have HK1 := Lib.hid (HK.out.upd UR)
  have hw9 := UR.size
  have hfl := hat.le
  rw [List.length_map] at hfl
  have HAT := Lib.hid hat
  clear U9 S9 UR c1 cs c2 l1 ls l2 HK H0 hat
  have hw0 : WW (lo1, lo2) (hi1, hi2) qs fr = [] := WW_low fun j q hj hq => by
    refine HAT.out.before j q.1 hj ?_
    rw [HYS.out.2, List.getElem?_map, hq]; rfl
  have HJ1 := Lib.hid hj1
  have HW0 := Lib.hid hw0
  clear hj1 hw0
  generalize w9 = w1 at HJ1 HK1 hw9 ⊢
  have c1 : w1.cell? ⟨b1, 0, none⟩ = some (.pointer (some ⟨s, 0, none⟩)) := HK1.out.r1.cell 0
  have cs : w1.cell? ⟨s, 1, none⟩ = some (.slice rp rv.length rc) := HK1.out.rs.cell 1
  have hcap := HK1.out.v.le
  have a1 : (fr : Int) ≤ (rv.length : Int) := by omega
  have a2 : (rv.length : Int) ≤ (rc : Int) := by omega
  by_cases hfe : fr = rv.length
  · have HWE : WW (lo1, lo2) (hi1, hi2) qs fr = U.filter (btw (lo1, lo2) (hi1, hi2)) := by rw [hfe, HLN.out, WW_end, HR.out.flat]
    have HWE := Lib.hid HWE
    have hfz : (rv.length : Nat) - fr = 0 := by omega
    rcases HRP.out with rfl | ⟨g, rfl⟩
    · have hc0 := HK1.out.v.nil rfl
      have hf0 : fr = 0 := by omega
      have hl0 : rv.length = 0 := by omega
      go_wp2_with fail
      go_step3
      go_wp2_with fail
      go_loopw [31] (fun u31 wr => u31 = .int .i64 0 ∧ wr = w1) (fun _ _ => 0)
      case atStart => exact ⟨rfl, rfl⟩
      case round =>
        obtain ⟨rfl, rfl⟩ := hrel
        go_wp2_with fail
        rw [Exit.noGoto_normal]
        go_end0
        exact ⟨⟨_, rfl⟩, .inl ⟨_, rfl, by rw [← HWE.out, HW0.out]; exact HJ1.out⟩⟩
    · by_cases hcf : rc = fr
      · have hcT : (rc = fr) = True := eq_true hcf
        go_wp2_with fail
        go_step3
        go_wp2_with fail
        go_loopw [31] (fun u31 wr => u31 = .int .i64 0 ∧ wr = w1) (fun _ _ => 0)
        case atStart => exact ⟨rfl, rfl⟩
        case round =>
          obtain ⟨rfl, rfl⟩ := hrel
          go_wp2_with fail
          rw [Exit.noGoto_normal]
          go_end0
          exact ⟨⟨_, rfl⟩, .inl ⟨_, rfl, by rw [← HWE.out, HW0.out]; exact HJ1.out⟩⟩
      · skip
        go_wp2_with fail
        go_step3
        go_wp2_with fail
        go_loopw [31] (fun u31 wr => u31 = .int .i64 0 ∧ wr = w1) (fun _ _ => 0)
        case atStart => exact ⟨rfl, rfl⟩
        case round =>
          obtain ⟨rfl, rfl⟩ := hrel
          go_wp2_with fail
          rw [Exit.noGoto_normal]
          go_end0
          exact ⟨⟨_, rfl⟩, .inl ⟨_, rfl, by rw [← HWE.out, HW0.out]; exact HJ1.out⟩⟩
  · have hfl2 : fr < rv.length := by omega
    have hrp : ∃ g, rp = some ⟨g, 0, none⟩ := by
      rcases HRP.out with e | e
      · subst e
        have := HK1.out.v.nil rfl
        omega
      · exact e
    obtain ⟨g, rfl⟩ := hrp
    have hcf : ¬ rc = fr := by omega
    go_wp2_with fail
    go_step3
    go_wp2_with fail
    clear c1 cs a1 a2
    go_loopw [31] (fun u31 wr => ∃ j : Nat, u31 = .int .i64 j ∧ fr + j ≤ rv.length ∧ J (WW (lo1, lo2) (hi1, hi2) qs (fr + j)) wr ∧ NKeep wr b1 b2 b3 s (lo1, lo2) (hi1, hi2) cv (some ⟨g, 0, none⟩) rc rv qs ∧ w.heap.size ≤ wr.heap.size) (fun u31 _ => rv.length - (intOf u31).toNat)
    case atStart => exact ⟨0, rfl, by omega, by rw [Nat.add_zero, HW0.out]; exact HJ1.out, HK1.out, by omega⟩
    case round =>
      obtain ⟨j, rfl, hj, hjj, hk, hwr⟩ := hrel
      have HKR := Lib.hid hk
      have HJR := Lib.hid hjj
      clear hk hjj HJ1 HK1 HW0
      by_cases hjl : fr + j < rv.length
      · obtain ⟨⟨y, zp, zn, zc⟩, hr⟩ : ∃ r, rv[fr + j]? = some r := ⟨rv[fr + j], List.getElem?_eq_getElem hjl⟩
        obtain ⟨q, hq, hy, hzn, hzv⟩ := HKR.out.z (fr + j) _ hr
        obtain ⟨y', zs⟩ := q
        dsimp only at hy hzn hzv
        subst hy hzn
        have hdr : (rv.drop fr)[j]? = some ⟨y, zp, zs.length, zc⟩ := by rw [List.getElem?_drop]; exact hr
        have hsv : View wr (some ⟨g, fr * 2, none⟩) (rc - fr) (rv.drop fr) := by
          have h := HKR.out.v.slice2 (lo := fr) (hi := rv.length) (k := rc - fr) (p := some ⟨g, fr * 2, none⟩) (by omega) (Nat.le_refl _) (.inl ⟨hcf, by rw [Nat.zero_add]⟩) rfl
          rwa [List.take_of_length_le (by rw [List.length_drop]; exact Nat.le_refl _)] at h
        obtain ⟨b5, o5, e5, hb5, hc5⟩ := hsv.cells j _ hdr
        cases e5
        obtain ⟨cy, cz⟩ := hc5 j _ hdr
        change wr.cell? _ = some (.int .i64 y) at cy
        change wr.cell? _ = some (.slice zp zs.length zc) at cz
        have h3 : (wr.alloc (.cells #[.int .i64 y, .slice zp zs.length zc] 68)).cell? ⟨b3, 1, none⟩ = some (.int .i64 hi2) := (HKR.out.r3.alloc _).cell 1
        have h2 : (wr.alloc (.cells #[.int .i64 y, .slice zp zs.length zc] 68)).cell? ⟨b2, 0, none⟩ = some (.int .i64 lo1) := (HKR.out.r2.alloc _).cell 0
        have z1 : (j : Int) < ((rv.length - fr : Nat) : Int) := by omega
        have HQ := Lib.hid hq
        have HZV := Lib.hid hzv
        have HRR := Lib.hid hr
        have HQM := Lib.hid (List.mem_of_getElem? hq)
        clear hr hq hzv hdr hsv hc5
        have ua : Upd [] wr (wr.alloc (.cells #[.int .i64 y, .slice zp zs.length zc] 68)) := (Upd.refl [] wr).alloc _
        have rq0 := IsRow.new wr [.int .i64 y, .slice zp zs.length zc] 68
        have HUA := Lib.hid ua
        have HRQ := Lib.hid rq0
        clear ua rq0
        by_cases hyh : hi2 < y
        · have d1 : decide (hi2 < y) = true := decide_eq_true hyh
          have HYH := Lib.hid hyh
          clear hyh
          go_wp2_with fail
          rw [Exit.noGoto_normal]
          go_end0
          exact ⟨⟨_, rfl⟩, .inl ⟨_, rfl, by have h := HJ.out _ _ _ HJR.out HUA.out; rw [WW_high HR.out HQ.out HYH.out, HR.out.flat] at h; exact h⟩⟩
        · have d1 : decide (hi2 < y) = false := decide_eq_false hyh
          have HYH := Lib.hid hyh
          have hinc := row_inc HR.out HUS.out HQM.out
          have HIN := Lib.hid hinc
          have hzl := HQL.out _ HQM.out
          dsimp only at hzl
          clear hyh hinc
          go_wp2_with fail
          refine (findz_any zp zc zs lo1 _ (HZV.out.upd HUA.out) (by omega) HIN.out).mono ?_
          rintro e w6 ⟨⟨at0, bb2, rfl, hat2⟩, U6⟩
          have u6 := HUA.out.trans U6
          have hk6 := HKR.out.upd u6
          have hj6 := HJ.out _ _ _ HJR.out u6
          obtain ⟨q8, hq8⟩ : ∃ z, z = wr.heap.size := ⟨_, rfl⟩
          have r8 := HRQ.out.upd U6 (by simp)
          rw [← hq8] at r8 ⊢
          have hzne := HR.out.ne _ HQM.out
          dsimp only at hzne
          have hz0 : 0 < zs.length := List.length_pos_iff.2 hzne
          obtain ⟨bz, oz, rfl, _, _⟩ := HZV.out.cells 0 _ (List.getElem?_eq_getElem hz0)
          have c8 : w6.cell? ⟨q8, 1, none⟩ = some (.slice (some ⟨bz, oz, none⟩) zs.length zc) := r8.cell 1
          have hzc := HZV.out.le
          have hal := hat2.le
          have HAT2 := Lib.hid hat2
          have HK6 := Lib.hid hk6
          have HJ6 := Lib.hid hj6
          have HR8 := Lib.hid r8
          have HQ8 := Lib.hid (show w.heap.size ≤ q8 by omega)
          have hw6 := u6.size
          have c8y := c8
          have m1 : (at0 : Int) ≤ (zs.length : Int) := by omega
          have m2 : (zs.length : Int) ≤ (zc : Int) := by omega
          clear hk6 hj6 r8 hzne hat2 u6 U6 hq8 cy cz h3 h2 HUA HRQ HKR HJR
          by_cases hca : zc = at0
          · have hcT : (zc = at0) = True := eq_true hca
            have hzz : zs.length - at0 = 0 := by omega
            have hle0 : zs.length ≤ at0 := by omega
            go_wp2_with fail
            go_loopw [53] (fun u53 wi => u53 = .int .i64 0 ∧ wi = w6) (fun _ _ => 0)
            case atStart => exact ⟨rfl, rfl⟩
            case round =>
              obtain ⟨rfl, rfl⟩ := hrel
              go_wp2_with fail
              go_roundw
              case rel => exact ⟨j + 1, by go_num, by omega, by have h := HJ6.out; rw [← VV_low (lo := (lo1, lo2)) (hi := (hi1, hi2)) (q := (y, zs)) (n := at0) HAT2.out, VV_end HQ.out hle0] at h; exact h, HK6.out, by omega⟩
              case measure => simp [intOf]; omega
          · go_wp2_with fail
            clear c8y
            go_loopw [53] (fun u53 wi => ∃ k : Nat, u53 = .int .i64 k ∧ at0 + k ≤ zs.length ∧ J (VV (lo1, lo2) (hi1, hi2) qs (fr + j) (y, zs) (at0 + k)) wi ∧ NKeep wi b1 b2 b3 s (lo1, lo2) (hi1, hi2) cv (some ⟨g, 0, none⟩) rc rv qs ∧ IsRow wi q8 68 [.int .i64 y, .slice (some ⟨bz, oz, none⟩) zs.length zc] ∧ w.heap.size ≤ wi.heap.size) (fun u53 _ => zs.length - (intOf u53).toNat)
            case atStart => exact ⟨0, rfl, by omega, by rw [Nat.add_zero, VV_low HAT2.out]; exact HJ6.out, HK6.out, HR8.out, by omega⟩
            case round =>
              obtain ⟨k, rfl, hk1, hji, hki, hr8, hwi⟩ := hrel
              have HKI := Lib.hid hki
              have HJI := Lib.hid hji
              have HRI := Lib.hid hr8
              clear hki hji hr8 HJ6 HK6 HR8
              by_cases hkl : at0 + k < zs.length
              · obtain ⟨x, hx⟩ : ∃ x, zs[at0 + k]? = some x := ⟨zs[at0 + k], List.getElem?_eq_getElem hkl⟩
                obtain ⟨q', hq', _, _, hzv⟩ := HKI.out.z (fr + j) _ HRR.out
                rw [HQ.out] at hq'
                cases hq'
                have hxc : wr.cell? ⟨bz, oz + at0 + k, none⟩ = some (.int .i64 x) := by
                  obtain ⟨b7, o7, e7, _, h7⟩ := hzv.cells (at0 + k) x hx
                  cases e7
                  have := h7 (at0 + k) x hx
                  rwa [← Nat.add_assoc] at this
                have c3 : wr.cell? ⟨b3, 0, none⟩ = some (.int .i64 hi1) := HKI.out.r3.cell 0
                have c8 : wr.cell? ⟨q8, 0, none⟩ = some (.int .i64 y) := HRI.out.cell 0
                have zk : (k : Int) < ((zs.length - at0 : Nat) : Int) := by omega
                have HXX := Lib.hid hx
                clear hzv hx
                by_cases hxh : hi1 < x
                · have d2 : decide (hi1 < x) = true := decide_eq_true hxh
                  have HXH := Lib.hid hxh
                  clear hxh
                  go_wp2_with fail
                  go_roundw
                  case rel => exact ⟨j + 1, by go_num, by omega, by have h := HJI.out; rw [VV_high HQ.out HIN.out HXX.out HXH.out] at h; exact h, HKI.out, hwi⟩
                  case measure => simp [intOf]; omega
                · have d2 : decide (hi1 < x) = false := decide_eq_false hxh
                  have hb : btw (lo1, lo2) (hi1, hi2) (x, y) = true := by
                    have h1 := HAT2.out.after (at0 + k) x (by omega) HXX.out
                    have h2 : lo2 ≤ y := HAT.out.after (fr + j) y (by omega) (by rw [HYS.out.2, List.getElem?_map, HQ.out]; rfl)
                    have h3 := HYH.out
                    simp only [btw, decide_eq_true_eq]
                    omega
                  have hadm : (U.filter (btw (lo1, lo2) (hi1, hi2)))[(VV (lo1, lo2) (hi1, hi2) qs (fr + j) (y, zs) (at0 + k)).length]? = some (x, y) := by
                    rw [← HR.out.flat]
                    exact VV_told HQ.out HXX.out hb
                  have hnx : VV (lo1, lo2) (hi1, hi2) qs (fr + j) (y, zs) (at0 + k + 1) = VV (lo1, lo2) (hi1, hi2) qs (fr + j) (y, zs) (at0 + k) ++ [(x, y)] := by
                    rw [VV_next HXX.out, if_pos hb]
                  obtain ⟨fn, tmps, assign, body, hyy, hRR⟩ := HY.out _ (x, y) wr HJI.out hadm
                  try dsimp only at hyy hRR
                  change (Instr.yield l #[.agg #[.int .i64 x, .int .i64 y]]).run _ _ = _ at hyy
                  have HRD := Lib.hid hRR
                  have HNX := Lib.hid hnx
                  clear hRR hadm hnx hb hxh
                  refine (wpIn_wide (n := n')).1 ?_
                  gi_wp2
                  refine ⟨fun hh => by simp [Fence.wide] at hh, HRD.out.mono ?_⟩
                  rintro e W3 (⟨rfl, hj3, hu3⟩ | ⟨rfl, hx3⟩)
                  · have hk3 := HKI.out.updS hu3 HF.out
                    have hr3 := HRI.out.upd hu3 (fun hm => by have := HX.out _ hm; have := HQ8.out; omega)
                    rw [← HNX.out] at hj3
                    have hw3 := hu3.size
                    have HF3 := Lib.hid (And.intro hj3 (And.intro hk3 hr3))
                    clear hyy hj3 hk3 hr3 hu3 hxc c3 c8 d2
                    gi_wp2
                    go_roundw
                    case rel => exact ⟨k + 1, by go_num, by omega, HF3.out.1, HF3.out.2.1, HF3.out.2.2, by omega⟩
                    case measure => simp [intOf]; omega
                  · clear hyy hxc c3 c8 d2
                    gi_wp2
                    rw [Exit.noGoto_ret]
                    refine bodyPost_ret (results_none rfl _ _ _) rfl ?_
                    exact ⟨⟨_, rfl⟩, .inr ⟨_, trivial, hx3⟩⟩
              · have hke : at0 + k = zs.length := by omega
                have HKE := Lib.hid hke
                clear hke
                go_wp2_with fail
                go_roundw
                case rel => exact ⟨j + 1, by go_num, by omega, by have h := HJI.out; rw [VV_end HQ.out (by show zs.length ≤ _; have := HKE.out; omega)] at h; exact h, HKI.out, hwi⟩
                case measure => simp [intOf]; omega
      · have hje : fr + j = rv.length := by omega
        have HJE := Lib.hid hje
        go_wp2_with fail
        rw [Exit.noGoto_normal]
        go_end0
        exact ⟨⟨_, rfl⟩, .inl ⟨_, rfl, by have := HJR.out; rw [HJE.out, HLN.out, WW_end, HR.out.flat] at this; exact this⟩⟩

end Go.Proofs.Ytpoogkgekeocbaa
