/- Number, Len, At, Rows, Equal. -/
import Derived.Test.YtpoogkgekeocbaaK
namespace Go.Proofs.Ytpoogkgekeocbaa
open Go.RowKit
attribute [local go_sem high] run_eq34 run_eq24

theorem SetAt.parts {w : World} {s B : Nat} {cs : List Pt} {qs : List RowT} (h : SetAt w s B cs qs) : ∃ p c rp rc, IsRow w s 61 [.slice p cs.length c, .slice rp qs.length rc] ∧ View w p c cs := by
  obtain ⟨_, cv, v, rv, h1, h2, h3, h4⟩ := h
  obtain ⟨p, c, rfl, hv⟩ := h2.view
  obtain ⟨rp, rc, rfl, _⟩ := h3.view
  rw [h4.len] at h1
  exact ⟨p, c, rp, rc, h1, hv⟩

theorem len_any (s B : Nat) (cs : List Pt) (qs : List RowT) (w : World) (h : SetAt w s B cs qs) : Calls Try.prog 12 #[.pointer (some ⟨s, 0, none⟩)] w fun e w' => e = .returned (.int .i64 cs.length) ∧ Upd [] w w' := by
  obtain ⟨p, c, rp, rc, h1, hv⟩ := h.parts
  have c0 : w.cell? ⟨s, 0, none⟩ = some (.slice p cs.length c) := h1.cell 0
  clear h hv h1
  go_enter Try.func12, Try.ntmps12
  go_wp2_with fail
  go_ret
  exact ⟨rfl, Upd.refl _ _⟩

theorem rows_any (s B : Nat) (cs : List Pt) (qs : List RowT) (w : World) (h : SetAt w s B cs qs) : Calls Try.prog 15 #[.pointer (some ⟨s, 0, none⟩)] w fun e w' => e = .returned (.int .i64 qs.length) ∧ Upd [] w w' := by
  obtain ⟨p, c, rp, rc, h1, hv⟩ := h.parts
  have c0 : w.cell? ⟨s, 1, none⟩ = some (.slice rp qs.length rc) := h1.cell 1
  clear h hv h1
  go_enter Try.func15, Try.ntmps15
  go_wp2_with fail
  go_ret
  exact ⟨rfl, Upd.refl _ _⟩

theorem at_any (s B : Nat) (cs : List Pt) (qs : List RowT) (n : Int) (w : World) (h : SetAt w s B cs qs) (hl : cs.length ≤ 1048576) : Calls Try.prog 13 #[.pointer (some ⟨s, 0, none⟩), .int .i64 n] w fun e w' =>
    ((e = .returned (.tuple #[pv (0, 0), .bool false]) ∧ (n < 0 ∨ (cs.length : Int) ≤ n)) ∨ ∃ (i : Nat) (a : Pt), n = i ∧ cs[i]? = some a ∧ e = .returned (.tuple #[pv a, .bool true])) ∧ Upd [] w w' := by
  obtain ⟨p, c, rp, rc, h1, hv⟩ := h.parts
  have c0 : w.cell? ⟨s, 0, none⟩ = some (.slice p cs.length c) := h1.cell 0
  have hs := h1.lt
  have HV := Lib.hid hv
  clear h hv h1
  rcases Int.lt_or_le n 0 with hn | hn
  · have d1 : decide (n < 0) = true := decide_eq_true hn
    go_enter Try.func13, Try.ntmps13
    go_wp2_with fail
    refine bodyPost_ret (v := .tuple #[.agg #[.int .i64 0, .int .i64 0], .bool false]) (by simp [results, Try.results13, go_sem]) rfl ?_
    exact ⟨.inl ⟨rfl, .inl hn⟩, (Upd.refl [] w).alloc _⟩
  · have d1 : decide (n < 0) = false := decide_eq_false (by omega)
    rcases Int.lt_or_le n (cs.length : Int) with hn2 | hn2
    · obtain ⟨i, rfl⟩ : ∃ i : Nat, n = i := ⟨n.toNat, by omega⟩
      have hi : i < cs.length := by omega
      obtain ⟨⟨a1, a2⟩, ha⟩ : ∃ a, cs[i]? = some a := ⟨cs[i], List.getElem?_eq_getElem hi⟩
      obtain ⟨b, off, rfl, hb, hc⟩ := HV.out.cells i _ ha
      obtain ⟨k1, k2⟩ := hc i _ ha
      change w.cell? _ = some (.int .i64 a1) at k1
      change w.cell? _ = some (.int .i64 a2) at k2
      have d2 : decide ((cs.length : Int) ≤ (i : Int)) = false := decide_eq_false (by omega)
      have HA := Lib.hid ha
      clear hc ha
      go_enter Try.func13, Try.ntmps13
      go_wp2_with fail
      refine bodyPost_ret (v := .tuple #[.agg #[.int .i64 a1, .int .i64 a2], .bool true]) (by simp [results, Try.results13, go_sem]) rfl ?_
      exact ⟨.inr ⟨i, (a1, a2), rfl, HA.out, rfl⟩, (Upd.refl [] w).alloc _⟩
    · have d2 : decide ((cs.length : Int) ≤ n) = true := decide_eq_true hn2
      go_enter Try.func13, Try.ntmps13
      go_wp2_with fail
      refine bodyPost_ret (v := .tuple #[.agg #[.int .i64 0, .int .i64 0], .bool false]) (by simp [results, Try.results13, go_sem]) rfl ?_
      exact ⟨.inl ⟨rfl, .inr hn2⟩, (Upd.refl [] w).alloc _⟩

theorem number_any (s B : Nat) (cs : List Pt) (qs : List RowT) (a : Pt) (w : World) (h : SetAt w s B cs qs) (hl : cs.length ≤ 1048576) (hso : Sorted false cs) : Calls Try.prog 11 #[.pointer (some ⟨s, 0, none⟩), pv a] w fun e w' =>
    (∃ n : Nat, e = .returned (.tuple #[.int .i64 (if isAt cs a n then n else 0), .bool (isAt cs a n)]) ∧ At cs a n) ∧ Upd [] w w' := by
  obtain ⟨p, c, rp, rc, h1, hv⟩ := h.parts
  have hs := h1.lt
  obtain ⟨a1, a2⟩ := a
  have HV := Lib.hid hv
  have HS := Lib.hid hso
  have r0 := h1.alloc (.cells #[.int .i64 a1, .int .i64 a2] 24)
  have r1 := IsRow.new w [.int .i64 a1, .int .i64 a2] 24
  obtain ⟨q, hq⟩ : ∃ z, z = w.heap.size := ⟨_, rfl⟩
  rw [← hq] at r1
  have U0 : Upd [] w (w.alloc (.cells #[.int .i64 a1, .int .i64 a2] 24)) := (Upd.refl [] w).alloc _
  have HU := Lib.hid U0
  have HR0 := Lib.hid r0
  have HR1 := Lib.hid r1
  have HQ := Lib.hid hq
  clear h hv h1 hso r0 r1 U0 hq
  show Calls Try.prog 11 #[.pointer (some ⟨s, 0, none⟩), .agg #[.int .i64 a1, .int .i64 a2]] w _
  go_enter Try.func11, Try.ntmps11
  go_wp2_with fail
  rw [← HQ.out]
  generalize w.alloc (.cells #[.int .i64 a1, .int .i64 a2] 24) = w0 at HU HR0 HR1 ⊢
  have d0 : w0.cell? ⟨s, 0, none⟩ = some (.slice p cs.length c) := HR0.out.cell 0
  have d1 : w0.cell? ⟨q, 0, none⟩ = some (.int .i64 a1) := HR1.out.cell 0
  have d2 : w0.cell? ⟨q, 1, none⟩ = some (.int .i64 a2) := HR1.out.cell 1
  have ls := HR0.out.lt
  have lq := HR1.out.lt
  go_region_held3 (fun w' => w'.cell? ⟨s, 0, none⟩ = some (.slice p cs.length c) ∧ w'.cell? ⟨q, 0, none⟩ = some (.int .i64 a1) ∧ w'.cell? ⟨q, 1, none⟩ = some (.int .i64 a2)) (first | exact ⟨d0, d1, d2⟩ | exact S9)
    (first | (go_at_call 30; refine (find_any _ _ cs (a1, a2) _ ((HV.out.upd HU.out).upd (Upd.refl [] w0).drew) hl HS.out).mono ?_; rintro e w9 ⟨⟨n, rfl, hat⟩, U9⟩; have S9 : w9.cell? ⟨s, 0, none⟩ = some (.slice p cs.length c) ∧ w9.cell? ⟨q, 0, none⟩ = some (.int .i64 a1) ∧ w9.cell? ⟨q, 1, none⟩ = some (.int .i64 a2) := ⟨(U9.cell (p := ⟨s, 0, none⟩) ls (by simp)).trans d0, (U9.cell (p := ⟨q, 0, none⟩) lq (by simp)).trans d1, (U9.cell (p := ⟨q, 1, none⟩) lq (by simp)).trans d2⟩))
  have U2 : Upd [] w w9 := (HU.out.drew).trans U9
  have HAT := Lib.hid hat
  clear U9 S9 d0 d1 d2 hat
  cases hb : isAt cs (a1, a2) n with
  | true =>
    have HB := Lib.hid hb
    clear hb
    go_wp2_with fail
    exact bodyPost_ret (v := .tuple #[.int .i64 n, .bool true]) (by simp [results, Try.results11, go_sem]) rfl ⟨⟨n, by rw [HB.out]; rfl, HAT.out⟩, U2⟩
  | false =>
    have HB := Lib.hid hb
    clear hb
    go_wp2_with fail
    exact bodyPost_ret (v := .tuple #[.int .i64 0, .bool false]) (by simp [results, Try.results11, go_sem]) rfl ⟨⟨n, by rw [HB.out]; rfl, HAT.out⟩, U2⟩

theorem take_next {xs ys : List Pt} {j : Nat} {a : Pt} (h : xs.take j = ys.take j) (ha : xs[j]? = some a) (hb : ys[j]? = some a) : xs.take (j + 1) = ys.take (j + 1) := by
  rw [List.take_add_one, List.take_add_one, h, ha, hb]

set_option maxHeartbeats 1000000 in
theorem equal32 (p p' : Option Addr) (c c' : Nat) (xs ys : List Pt) (w : World) (hx : View w p c xs) (hy : View w p' c' ys) (hn : xs.length ≤ 1048576) (hm : ys.length ≤ 1048576) :
    Calls Try.prog 32 #[.slice p xs.length c, .slice p' ys.length c'] w fun e w' => e = .returned (.bool (decide (xs = ys))) ∧ Upd [] w w' := by
  have HX := Lib.hid hx
  have HY := Lib.hid hy
  clear hx hy
  by_cases hll : xs.length = ys.length
  · have HLL := Lib.hid hll
    rw [show ys.length = xs.length from hll.symm]
    have hb : ((xs.length : Int) != (xs.length : Int)) = false := by simp
    clear hll hm
    go_enter Try.func32, Try.ntmps32
    go_wp2_with fail
    go_loopw [5, 13] (fun u5 u13 wr => ∃ j : Nat, j ≤ xs.length ∧ u13 = .int .i64 j ∧ xs.take j = ys.take j ∧ Upd [] w wr) (fun _ u13 _ => xs.length - (intOf u13).toNat)
    case atStart => exact ⟨0, Nat.zero_le _, rfl, by simp, Upd.refl _ _⟩
    case round =>
      obtain ⟨j, hj, rfl, htk, U0⟩ := hrel
      by_cases hjl : j < xs.length
      · obtain ⟨⟨a1, a2⟩, ha⟩ : ∃ a, xs[j]? = some a := ⟨xs[j], List.getElem?_eq_getElem hjl⟩
        obtain ⟨⟨b1, b2⟩, hb2⟩ : ∃ a, ys[j]? = some a := ⟨ys[j]'(by have := HLL.out; omega), List.getElem?_eq_getElem _⟩
        obtain ⟨bx, ox, rfl, lx, hcx⟩ := (HX.out.upd U0).cells j _ ha
        obtain ⟨by', oy, rfl, ly, hcy⟩ := (HY.out.upd U0).cells j _ hb2
        obtain ⟨ca, ca'⟩ := hcx j _ ha
        obtain ⟨cb, cb'⟩ := hcy j _ hb2
        change wr.cell? _ = some (.int .i64 a1) at ca
        change wr.cell? _ = some (.int .i64 a2) at ca'
        change wr.cell? _ = some (.int .i64 b1) at cb
        change wr.cell? _ = some (.int .i64 b2) at cb'
        have HA := Lib.hid ha
        have HB := Lib.hid hb2
        have HT := Lib.hid htk
        clear hcx hcy ha hb2 htk
        cases he : eqP a1 a2 b1 b2 with
        | true =>
          have HE := Lib.hid (eqP_iff.1 he)
          go_wp2_with fail
          go_quiet (fail)
          go_wp2_with fail
          go_roundw
          case rel => exact ⟨j + 1, by omega, by go_num, take_next HT.out HA.out (HE.out ▸ HB.out), U0.drewN _⟩
          case measure => simp [intOf]; omega
        | false =>
          have HE := Lib.hid he
          go_wp2_with fail
          go_quiet (fail)
          go_wp2_with fail
          refine bodyPost_ret (v := .bool false) (by simp [results, Try.results32, go_sem]) rfl ⟨ret_bool (decide_eq_false fun e => ?_).symm, U0.drewN _⟩
          have h1 := HA.out
          rw [e, HB.out] at h1
          have h2 := Option.some.inj h1
          have h3 := HE.out
          have h4 := (eqP_iff (a := a1) (b := a2) (c := b1) (d := b2)).2 h2.symm
          rw [h4] at h3
          cases h3
      · have hje : j = xs.length := by omega
        subst hje
        have hxy : xs = ys := by
          rw [List.take_length] at htk
          rw [HLL.out, List.take_length] at htk
          exact htk
        have HXY := Lib.hid hxy
        clear htk hxy
        go_wp2_with fail
        exact bodyPost_ret (v := .bool true) (by simp [results, Try.results32, go_sem]) rfl ⟨ret_bool (decide_eq_true HXY.out).symm, U0⟩
  · have hne : ((xs.length : Int) != (ys.length : Int)) = true := by
      simp only [bne_iff_ne, ne_eq]; omega
    have hne2 : ¬ xs = ys := fun e => hll (by rw [e])
    have HNE := Lib.hid hne2
    clear hne2
    go_enter Try.func32, Try.ntmps32
    go_wp2_with fail
    exact bodyPost_ret (v := .bool false) (by simp [results, Try.results32, go_sem]) rfl ⟨ret_bool (decide_eq_false HNE.out).symm, Upd.refl _ _⟩

theorem equal_any (s t B B' : Nat) (cs ds : List Pt) (qs rs : List RowT) (w : World) (h : SetAt w s B cs qs) (g : SetAt w t B' ds rs) (hl : cs.length ≤ 1048576) (hm : ds.length ≤ 1048576) :
    Calls Try.prog 16 #[.pointer (some ⟨s, 0, none⟩), .pointer (some ⟨t, 0, none⟩)] w fun e w' => e = .returned (.bool (decide (cs = ds))) ∧ Upd [] w w' := by
  obtain ⟨p, c, rp, rc, h1, hv⟩ := h.parts
  obtain ⟨p', c', rp', rc', g1, gv⟩ := g.parts
  have d0 : w.cell? ⟨s, 0, none⟩ = some (.slice p cs.length c) := h1.cell 0
  have d1 : w.cell? ⟨t, 0, none⟩ = some (.slice p' ds.length c') := g1.cell 0
  have ls := h1.lt
  have lt := g1.lt
  have HV := Lib.hid hv
  have GV := Lib.hid gv
  clear h g h1 g1 hv gv
  go_enter Try.func16, Try.ntmps16
  go_wp2_with fail
  go_region_held3 (fun w' => w'.cell? ⟨s, 0, none⟩ = some (.slice p cs.length c) ∧ w'.cell? ⟨t, 0, none⟩ = some (.slice p' ds.length c')) (first | exact ⟨d0, d1⟩ | exact S9)
    (first | (go_at_call 32; refine (equal32 _ _ _ _ cs ds _ (HV.out.upd (Upd.refl [] w).drew) (GV.out.upd (Upd.refl [] w).drew) hl hm).mono ?_; rintro e w9 ⟨rfl, U9⟩; have S9 : w9.cell? ⟨s, 0, none⟩ = some (.slice p cs.length c) ∧ w9.cell? ⟨t, 0, none⟩ = some (.slice p' ds.length c') := ⟨(U9.cell (p := ⟨s, 0, none⟩) ls (by simp)).trans d0, (U9.cell (p := ⟨t, 0, none⟩) lt (by simp)).trans d1⟩))
  have U2 : Upd [] w w9 := ((Upd.refl [] w).drew).trans U9
  clear S9 U9 d0 d1
  go_wp2_with fail
  exact bodyPost_ret (v := .bool (decide (cs = ds))) (by simp [results, Try.results16, go_sem]) rfl ⟨rfl, U2⟩

end Go.Proofs.Ytpoogkgekeocbaa
