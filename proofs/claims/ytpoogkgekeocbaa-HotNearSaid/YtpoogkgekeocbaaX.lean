/- The law HotNear: the walk. -/
import Derived.Test.YtpoogkgekeocbaaNI
import Derived.Test.YtpoogkgekeocbaaRN
import Derived.Test.YtpoogkgekeocbaaRange4
namespace Go.Proofs.Ytpoogkgekeocbaa
open Go.RowKit
attribute [local go_sem high] run_eq34 run_eq24
attribute [local go_sem] Oper.semAt_some

theorem near_any (s : Nat) (lo hi : Pt) (w : World) : Calls Try.prog 18 #[.pointer (some ⟨s, 0, none⟩), pv lo, pv hi] w fun e w' =>
    e = .returned (.func (.func 33) #[] #[.pointer (some ⟨w.heap.size, 0, none⟩), .pointer (some ⟨w.heap.size + 1, 0, none⟩), .pointer (some ⟨w.heap.size + 2, 0, none⟩)]) ∧
    w' = ((w.alloc (.cells #[.pointer (some ⟨s, 0, none⟩)] 26 (0, 0))).alloc (.cells #[.int .i64 lo.1, .int .i64 lo.2] 24 (0, 0))).alloc (.cells #[.int .i64 hi.1, .int .i64 hi.2] 24 (0, 0)) := by
  obtain ⟨lo1, lo2⟩ := lo
  obtain ⟨hi1, hi2⟩ := hi
  show Calls Try.prog 18 #[.pointer (some ⟨s, 0, none⟩), .agg #[.int .i64 lo1, .int .i64 lo2], .agg #[.int .i64 hi1, .int .i64 hi2]] w _
  go_enter Try.func18, Try.ntmps18
  go_wp2_with fail
  go_ret
  exact ⟨rfl, rfl⟩

theorem Z.Own.geT {w : World} {B : Nat} {p : Option Addr} {n c : Nat} {x : List Int} (h : Z.Own w B (.slice p n c) x) : ∀ b off k, p = some ⟨b, off, k⟩ → B ≤ b ∧ b < w.heap.size := by
  intro b off k hp
  rcases h.2 with ⟨h2, _⟩ | ⟨g, cap, cur, h2, hb, hg, _⟩
  · rw [hp] at h2
    simp at h2
  · rw [hp] at h2
    simp only [Value.slice.injEq, Option.some.injEq, Addr.mk.injEq] at h2
    obtain ⟨⟨rfl, _, _⟩, _, _⟩ := h2
    exact ⟨hb, (Array.getElem?_eq_some_iff.1 hg).1⟩
theorem Rw.geT {w : World} {B : Nat} {p : Option Addr} {n c : Nat} {x : List Rw} (h : Own 68 w B (.slice p n c) x) : (p = none ∨ ∃ g, p = some ⟨g, 0, none⟩) ∧ ∀ b off k, p = some ⟨b, off, k⟩ → B ≤ b ∧ b < w.heap.size := by
  rcases h.2 with ⟨h2, _⟩ | ⟨g, cap, cur, h2, hb, hg, _⟩
  · simp only [Value.slice.injEq] at h2
    obtain ⟨rfl, _⟩ := h2
    exact ⟨.inl rfl, fun b off k hp => by cases hp⟩
  · simp only [Value.slice.injEq] at h2
    obtain ⟨rfl, _⟩ := h2
    exact ⟨.inr ⟨g, rfl⟩, fun b off k hp => by cases hp; exact ⟨hb, (Array.getElem?_eq_some_iff.1 hg).1⟩⟩
theorem rows_map {w : World} {B : Nat} : ∀ {rv : List Rw} {qs : List RowT}, RowsOwn w B rv qs → rv.map (·.y) = qs.map (·.1)
  | [], [], _ => rfl
  | _ :: _, _ :: _, h => by rw [List.map_cons, List.map_cons, h.1, rows_map h.2.2]

theorem SetAt.keep {w w1 : World} {s B b1 b2 b3 : Nat} {cs : List Pt} {qs : List RowT} {lo hi : Pt} {U : List Pt} (h : SetAt w s B cs qs) (hR : Rows U qs) (u : Upd [] w w1) (r1 : IsRow w1 b1 26 [.pointer (some ⟨s, 0, none⟩)])
    (r2 : IsRow w1 b2 24 [.int .i64 lo.1, .int .i64 lo.2]) (r3 : IsRow w1 b3 24 [.int .i64 hi.1, .int .i64 hi.2]) :
    ∃ cv rp rc rv, NKeep w1 b1 b2 b3 s lo hi cv rp rc rv qs ∧ (rp = none ∨ ∃ g, rp = some ⟨g, 0, none⟩) ∧ rv.length = qs.length ∧ UpY rv qs ∧
      ∀ X : List Nat, (∀ z, z ∈ X → z < B ∨ w.heap.size ≤ z) → b1 ∉ X → b2 ∉ X → b3 ∉ X → NFar X b1 b2 b3 s rp rv := by
  obtain ⟨h0, cv, v, rv, h1, h2, h3, h4⟩ := h
  obtain ⟨rp, rc, rfl, hv⟩ := h3.view
  obtain ⟨g1, g2⟩ := Rw.geT h3
  have hm := rows_map h4
  refine ⟨cv, rp, rc, rv, ⟨r1, r2, r3, h1.upd u (by simp), hv.upd u, fun i r hr => ?_⟩, g1, h4.len, ⟨by rw [hm]; exact rows_up hR, hm⟩, fun X hX n1 n2 n3 => ⟨n1, n2, n3, fun hs => ?_, fun b off e hb => ?_, fun i r hr b off e hb => ?_⟩⟩
  · obtain ⟨q, k1, k2, k3⟩ := h4.at hr
    obtain ⟨k4, k5⟩ := k3.view'
    exact ⟨q, k1, k2, k4, k5.upd u⟩
  · have := h1.lt
    rcases hX s hs with e | e <;> omega
  · have := g2 b off none e
    rcases hX b hb with e | e <;> omega
  · obtain ⟨q, k1, k2, k3⟩ := h4.at hr
    have := Z.Own.geT k3 b off none e
    rcases hX b hb with e | e <;> omega

theorem row_len {U : List Pt} {qs : List RowT} {q : RowT} (h : Rows U qs) (hq : q ∈ qs) : q.2.length ≤ U.length := by
  have h1 : (q.2.map fun x => (x, q.1)).Sublist U := by
    rw [← h.flat]
    exact List.sublist_flatten_of_mem (List.mem_map.2 ⟨q, hq, rfl⟩)
  have := h1.length_le
  rwa [List.length_map] at this

def IsWant (lo hi : Pt) (us want : List Pt) : Prop := us.filter (btw lo hi) = want

theorem filter_len (f : Pt → Bool) (l : List Pt) : (l.filter f).length ≤ l.length := List.length_filter_le f l

set_option maxRecDepth 100000 in
set_option maxHeartbeats 4000000 in
theorem hotnear_all (v : Value) (l : List Pt) (xa xb xc xd : Int) (stop : Int) (w : World) (hx : Lst w v l) : Calls Try.prog 6 #[v, .agg #[.int .i64 xa, .int .i64 xb, .int .i64 xc, .int .i64 xd], .int .i64 stop] w fun e w' => e = .returned (.bool true) ∧ Upd [] w w' := by
  obtain ⟨p, cp, rfl, hv⟩ := hx
  have rbo0 := ((IsRow.new w [.int .i64 xa, .int .i64 xb, .int .i64 xc, .int .i64 xd] 48).alloc (.cells #[.int .i64 stop] 3)).alloc (.cells #[.bool false] 4)
  have rst0 := (IsRow.new (w.alloc (.cells #[.int .i64 xa, .int .i64 xb, .int .i64 xc, .int .i64 xd] 48)) [.int .i64 stop] 3).alloc (.cells #[.bool false] 4)
  have rre0 := IsRow.new ((w.alloc (.cells #[.int .i64 xa, .int .i64 xb, .int .i64 xc, .int .i64 xd] 48)).alloc (.cells #[.int .i64 stop] 3)) [.bool false] 4
  have U0 : Upd [] w (((w.alloc (.cells #[.int .i64 xa, .int .i64 xb, .int .i64 xc, .int .i64 xd] 48)).alloc (.cells #[.int .i64 stop] 3)).alloc (.cells #[.bool false] 4)) := (((Upd.refl [] w).alloc _).alloc _).alloc _
  have hz0 : (((w.alloc (.cells #[.int .i64 xa, .int .i64 xb, .int .i64 xc, .int .i64 xd] 48)).alloc (.cells #[.int .i64 stop] 3)).alloc (.cells #[.bool false] 4)).heap.size = w.heap.size + 3 := by simp
  simp only [World.size_alloc] at rst0 rre0
  obtain ⟨bbo, hbbo⟩ : ∃ z, z = w.heap.size := ⟨_, rfl⟩
  rw [← hbbo] at rbo0 rst0 rre0 hz0
  have HBO := Lib.hid hbbo
  have RB0 := Lib.hid rbo0
  have RS0 := Lib.hid rst0
  have RR0 := Lib.hid rre0
  have HU0 := Lib.hid U0
  have HZ0 := Lib.hid hz0
  have L0 := Lib.hid (hv.lst.upd U0)
  clear hbbo rbo0 rst0 rre0 U0 hz0 hv
  refine (callsIn_wide (n := 3)).1 ?_
  refine callsIn_of_wp_marks Try.func6 rfl trivial ?_ rfl
  refine wpIn_wide.2 ?_
  simp only [Try.ntmps6, List.size_toArray, List.length_cons, List.length_nil, Nat.reduceAdd, Nat.reduceSub, Array.replicate_succ, Array.replicate_zero, List.push_toArray, List.append_toArray, List.nil_append, List.cons_append]
  by_cases hl : 120 < l.length
  · go_wp2_with fail
    rw [← HBO.out]
    generalize ((w.alloc (.cells #[.int .i64 xa, .int .i64 xb, .int .i64 xc, .int .i64 xd] 48)).alloc (.cells #[.int .i64 stop] 3)).alloc (.cells #[.bool false] 4) = w0 at RB0 RS0 RR0 HU0 HZ0 L0 ⊢
    refine (awake_any _).mono ?_
    rintro e w9 ⟨rfl, U9⟩
    have r9 := RR0.out.upd U9 (by simp)
    have c9 : w9.cell? ⟨bbo + 2, 0, none⟩ = some (.bool false) := r9.cell 0
    have f9 := r9.free 0
    have c10 := (r9.setCell_same 0 (.bool true)).cell 0
    simp only [List.set_cons_zero, List.getElem?_cons_zero] at c10
    have U10 := (HU0.out.trans U9).setCell_new (p := ⟨bbo + 2, 0, none⟩) (by show w.heap.size ≤ bbo + 2; have := HBO.out; omega) (.bool true)
    clear r9 U9
    go_wp2_with fail
    exact ⟨.bool true, by simp [results, Try.results6, go_sem, c10], rfl, U10⟩
  · have hn : l.length ≤ 120 := by omega
    go_wp2_with fail
    rw [← HBO.out]
    generalize ((w.alloc (.cells #[.int .i64 xa, .int .i64 xb, .int .i64 xc, .int .i64 xd] 48)).alloc (.cells #[.int .i64 stop] 3)).alloc (.cells #[.bool false] 4) = w0 at RB0 RS0 RR0 HU0 HZ0 L0 ⊢
    refine (refs_l L0.out (by omega)).mono ?_
    rintro e w1 ⟨⟨v1, rfl, ho1⟩, U1⟩
    have L1 := Lib.hid (L0.out.upd U1)
    have O1 := Lib.hid ho1.lst
    have RB1 := Lib.hid (RB0.out.upd U1 (by simp))
    have RS1 := Lib.hid (RS0.out.upd U1 (by simp))
    have RR1 := Lib.hid (RR0.out.upd U1 (by simp))
    have HU1 := Lib.hid (HU0.out.trans U1)
    have hz1 := U1.size
    clear L0 RB0 RS0 RR0 HU0 U1 ho1
    go_wp2_with fail
    cases hb : l.all rightP with
    | false =>
      have HB := Lib.hid hb
      refine (newbad_l L1.out (by omega) hb).mono ?_
      rintro e w3 ⟨rfl, U3⟩
      have RR3 := Lib.hid (RR1.out.upd U3 (by simp))
      have HU3 := Lib.hid (HU1.out.trans U3)
      clear hb U3 RR1 HU1 RS1 RB1 L1 O1
      go_wp2_with fail
      refine (awake_any _).mono ?_
      rintro e w9 ⟨rfl, U9⟩
      have r9 := RR3.out.upd U9 (by simp)
      have c9 : w9.cell? ⟨bbo + 2, 0, none⟩ = some (.bool false) := r9.cell 0
      have f9 := r9.free 0
      have c10 := (r9.setCell_same 0 (.bool true)).cell 0
      simp only [List.set_cons_zero, List.getElem?_cons_zero] at c10
      have U10 := (HU3.out.trans U9).setCell_new (p := ⟨bbo + 2, 0, none⟩) (by show w.heap.size ≤ bbo + 2; have := HBO.out; omega) (.bool true)
      clear r9 U9
      go_wp2_with fail
      exact ⟨.bool true, by simp [results, Try.results6, go_sem, c10], rfl, U10⟩
    | true =>
      have HB := Lib.hid hb
      refine (new_l L1.out (by omega) hb).mono ?_
      rintro e w3 ⟨⟨s, qs, rfl, hs, hrs⟩, U3⟩
      have HS3 := Lib.hid hs
      have HQS := Lib.hid hrs
      have RB3 := Lib.hid (RB1.out.upd U3 (by simp))
      have RS3 := Lib.hid (RS1.out.upd U3 (by simp))
      have RR3 := Lib.hid (RR1.out.upd U3 (by simp))
      have O3 := Lib.hid (O1.out.upd U3)
      have HU3 := Lib.hid (HU1.out.trans U3)
      have hz3 := U3.size
      have g0 : w3.cell? ⟨bbo, 0, none⟩ = some (.int .i64 xa) := RB3.out.cell 0
      have g1 : w3.cell? ⟨bbo, 1, none⟩ = some (.int .i64 xb) := RB3.out.cell 1
      have g2 : w3.cell? ⟨bbo, 2, none⟩ = some (.int .i64 xc) := RB3.out.cell 2
      have g3 : w3.cell? ⟨bbo, 3, none⟩ = some (.int .i64 xd) := RB3.out.cell 3
      clear hb hs hrs U3 RB1 RS1 RR1 HU1 L1 O1
      go_wp2_with fail
      clear g0 g1 g2 g3
      refine (refnear_any _ l (xa, xb) (xc, xd) _ O3.out (by omega)).mono ?_
      rintro e w4 ⟨⟨v4, rfl, ho4⟩, U4⟩
      have hwl : ((uniq true l).filter (btw (xa, xb) (xc, xd))).length ≤ 120 := by
        have h1 := filter_len (btw (xa, xb) (xc, xd)) (uniq true l)
        have h2 := uniq_len true l
        omega
      have hul := uniq_len true l
      have hst := uniq_strict true l
      generalize hus : uniq true l = us at ho4 hwl hul hst HQS
      generalize hwt : us.filter (btw (xa, xb) (xc, xd)) = want at ho4 hwl
      obtain ⟨np, nc, rfl, hv4⟩ := ho4.view
      have HST := Lib.hid hst
      have hwd : IsWant (xa, xb) (xc, xd) us want := hwt
      have HWT := Lib.hid hwd
      have HS4 := Lib.hid (HS3.out.upd U4)
      have RB4 := Lib.hid (RB3.out.upd U4 (by simp))
      have RS4 := Lib.hid (RS3.out.upd U4 (by simp))
      have RR4 := Lib.hid (RR3.out.upd U4 (by simp))
      have HU4 := Lib.hid (HU3.out.trans U4)
      have hz4 := U4.size
      have rw4 := IsRow.new w4 [.slice np want.length nc] 30
      have ub : Upd [] w4 (w4.alloc (.cells #[.slice np want.length nc] 30)) := (Upd.refl [] w4).alloc _
      obtain ⟨bw, hbw⟩ : ∃ z, z = w4.heap.size := ⟨_, rfl⟩
      rw [← hbw] at rw4
      have HBW := Lib.hid hbw
      have RW5 := Lib.hid rw4
      have OW5 := Lib.hid (ho4.kept ub (by simp))
      have HS5 := Lib.hid (HS4.out.upd ub)
      have RB5 := Lib.hid (RB4.out.upd ub (by simp))
      have RS5 := Lib.hid (RS4.out.upd ub (by simp))
      have RR5 := Lib.hid (RR4.out.upd ub (by simp))
      have HU5 := Lib.hid (HU4.out.trans ub)
      have hz5 : (w4.alloc (.cells #[.slice np want.length nc] 30)).heap.size = bw + 1 := by simp [hbw]
      have HZ5 := Lib.hid hz5
      clear hus hwt hwd hst ho4 hv4 U4 HS3 RB3 RS3 RR3 O3 HU3 HS4 RB4 RS4 RR4 HU4 rw4 ub hbw hz5
      have g0 : ((w4.alloc (.cells #[.slice np want.length nc] 30)).alloc (.cells #[.int .i64 0] 3)).cell? ⟨bbo, 0, none⟩ = some (.int .i64 xa) := (RB5.out.alloc _).cell 0
      have g1 : ((w4.alloc (.cells #[.slice np want.length nc] 30)).alloc (.cells #[.int .i64 0] 3)).cell? ⟨bbo, 1, none⟩ = some (.int .i64 xb) := (RB5.out.alloc _).cell 1
      have g2 : ((w4.alloc (.cells #[.slice np want.length nc] 30)).alloc (.cells #[.int .i64 0] 3)).cell? ⟨bbo, 2, none⟩ = some (.int .i64 xc) := (RB5.out.alloc _).cell 2
      have g3 : ((w4.alloc (.cells #[.slice np want.length nc] 30)).alloc (.cells #[.int .i64 0] 3)).cell? ⟨bbo, 3, none⟩ = some (.int .i64 xd) := (RB5.out.alloc _).cell 3
      go_wp2_with fail
      clear g0 g1 g2 g3
      rw [← HBW.out]
      generalize w4.alloc (.cells #[.slice np want.length nc] 30) = w5 at RW5 OW5 HS5 RB5 RS5 RR5 HU5 HZ5 ⊢
      have rk := IsRow.new w5 [.int .i64 0] 3
      have uk : Upd [] w5 (w5.alloc (.cells #[.int .i64 0] 3)) := (Upd.refl [] w5).alloc _
      have hbk : w5.heap.size = bw + 1 := HZ5.out
      rw [hbk] at rk
      have hz6 : (w5.alloc (.cells #[.int .i64 0] 3)).heap.size = bw + 2 := by simp [hbk]
      have RK6 := Lib.hid rk
      have UK6 := Lib.hid uk
      have HZ6 := Lib.hid hz6
      have HBK := Lib.hid hbk
      clear rk uk hz6 hbk
      generalize w5.alloc (.cells #[.int .i64 0] 3) = w6 at RK6 UK6 HZ6 ⊢
      refine (near_any s (xa, xb) (xc, xd) w6).mono ?_
      rintro e w7 ⟨rfl, rfl⟩
      rw [HZ6.out]
      dsimp only
      have q1 := ((IsRow.new w6 [.pointer (some ⟨s, 0, none⟩)] 26).alloc (.cells #[.int .i64 xa, .int .i64 xb] 24)).alloc (.cells #[.int .i64 xc, .int .i64 xd] 24)
      have q2 := (IsRow.new (w6.alloc (.cells #[.pointer (some ⟨s, 0, none⟩)] 26)) [.int .i64 xa, .int .i64 xb] 24).alloc (.cells #[.int .i64 xc, .int .i64 xd] 24)
      have q3 := IsRow.new ((w6.alloc (.cells #[.pointer (some ⟨s, 0, none⟩)] 26)).alloc (.cells #[.int .i64 xa, .int .i64 xb] 24)) [.int .i64 xc, .int .i64 xd] 24
      simp only [World.size_alloc, HZ6.out] at q1 q2 q3
      have u7 : Upd [] w6 (((w6.alloc (.cells #[.pointer (some ⟨s, 0, none⟩)] 26)).alloc (.cells #[.int .i64 xa, .int .i64 xb] 24)).alloc (.cells #[.int .i64 xc, .int .i64 xd] 24)) := (((Upd.refl [] w6).alloc _).alloc _).alloc _
      have hz7 : (((w6.alloc (.cells #[.pointer (some ⟨s, 0, none⟩)] 26)).alloc (.cells #[.int .i64 xa, .int .i64 xb] 24)).alloc (.cells #[.int .i64 xc, .int .i64 xd] 24)).heap.size = bw + 5 := by have := HZ6.out; simp; omega
      have RK7 := Lib.hid (RK6.out.upd u7 (by simp))
      have UK7 := Lib.hid (UK6.out.trans u7)
      have Q1 := Lib.hid q1
      have Q2 := Lib.hid q2
      have Q3 := Lib.hid q3
      have HZ7 := Lib.hid hz7
      clear q1 q2 q3 u7 hz7 RK6 UK6
      generalize ((w6.alloc (.cells #[.pointer (some ⟨s, 0, none⟩)] 26)).alloc (.cells #[.int .i64 xa, .int .i64 xb] 24)).alloc (.cells #[.int .i64 xc, .int .i64 xd] 24) = w7 at RK7 UK7 Q1 Q2 Q3 HZ7 ⊢
      go_wp2_with fail
      have hsz : w7.heap.size = bw + 5 := HZ7.out
      have h5z : w5.heap.size = bw + 1 := HBK.out
      have hb3 : bbo + 3 ≤ w1.heap.size := by have := HZ0.out; omega
      have hbw : w1.heap.size ≤ bw := by have := HBW.out; omega
      have hbo : w.heap.size = bbo := HBO.out.symm
      have u57 : Upd [] w5 w7 := UK7.out
      obtain ⟨cv, rp, rc, rv, hkeep, hrp, hrl, huy, hfar⟩ := HS5.out.keep (lo := (xa, xb)) (hi := (xc, xd)) HQS.out u57 Q1.out Q2.out Q3.out
      have hfar2 : NFar [bbo + 2, bw + 1] (bw + 2) (bw + 2 + 1) (bw + 2 + 2) s rp rv := by
        refine hfar _ (fun z hz => ?_) (by simp; omega) (by simp; omega) (by simp; omega)
        simp only [List.mem_cons, List.mem_nil_iff, or_false] at hz
        rcases hz with rfl | rfl
        · exact .inl (by omega)
        · exact .inr (by omega)
      have hqlen : qs.length ≤ us.length := HQS.out.len
      have HKP := Lib.hid hkeep
      have HRP := Lib.hid hrp
      have HRL := Lib.hid hrl
      have HUY := Lib.hid huy
      have HNF := Lib.hid hfar2
      clear hkeep hrp hrl huy hfar hfar2 u57 Q1 Q2 Q3
      refine (wpIn_wide (n := 3)).1 ?_
      refine wp_range4' (gf := 33) (lb := #[.pointer (some ⟨bw + 2, 0, none⟩), .pointer (some ⟨bw + 2 + 1, 0, none⟩), .pointer (some ⟨bw + 2 + 2, 0, none⟩)]) rfl (enters_of Try.func33 (by kernel_rfl) rfl)
        (near_iter 2 w7 (bw + 2) (bw + 2 + 1) (bw + 2 + 2) s (xa, xb) (xc, xd) cv rp rc rv qs us [bbo + 2, bw + 1] HKP.out HNF.out
          (fun z hz => by simp only [List.mem_cons, List.mem_nil_iff, or_false] at hz; rcases hz with rfl | rfl <;> omega) HQS.out HST.out HRL.out (by have := HRL.out; omega)
          (fun q hq => by have := row_len HQS.out hq; omega) HRP.out HUY.out) (fun _ => rfl) (by simp)
        (fun z hz => by simp only [List.mem_cons, List.mem_nil_iff, or_false] at hz; rcases hz with rfl | rfl <;> omega)
        (fun pre W => IsRow W (bw + 1) 3 [.int .i64 pre.length] ∧ Upd [] w5 W ∧ w7.heap.size ≤ W.heap.size)
        (fun c pre W => c = .ret ∧ IsRow W (bbo + 2) 4 [.bool true] ∧ Upd [] w W)
        ?hI ?hIx ?hAdm ?h0 (fun t y W => (t.setIfInBounds 59 (.agg #[.int .i64 y.1, .int .i64 y.2])).setIfInBounds 13 (.pointer (some ⟨W.heap.size, 0, none⟩)))
        (fun y W => W.alloc (.cells #[.int .i64 y.1, .int .i64 y.2] 24)) (fun _ W => (Upd.refl [] W).alloc _) ?assign ?body ?done ?stop
      case hI =>
        rintro pre W W' ⟨h1, h2, h3⟩ u
        exact ⟨u.row h1 (by simp), u.upd h2 (by omega) (by simp), Nat.le_trans h3 u.size⟩
      case hIx =>
        rintro c pre W W' ⟨h1, h2, h3⟩ u
        exact ⟨h1, u.row h2 (by simp), u.upd h3 (by omega) (by simp)⟩
      case hAdm =>
        rintro pre y W W' h u
        exact h
      case h0 => exact ⟨RK7.out, UK7.out, Nat.le_refl _⟩
      case assign =>
        rintro l ⟨a1, a2⟩ W K hK
        simp only [pv]
        gi_wp2
        exact hK
      case stop =>
        rintro D c pre W hD _ ⟨rfl, h1, h2⟩ hK
        have HF := Lib.hid (And.intro h2 (And.intro h1 hK))
        clear h1 h2 hK
        gi_wp2_with fail
        refine ⟨by simp, .inl ⟨_, _, rfl, run_takeDeferred HF.out.2.2, ?_⟩⟩
        have uf := updF_putObj (B := w7.heap.size) _ D _ (.deferred none) hD HF.out.2.2 rfl
        have cr := (uf.row HF.out.2.1 (by simp)).cell 0
        exact ⟨.bool true, by simp at cr; simp [results, Try.results6, go_sem, cr], rfl, uf.upd HF.out.1 (by omega) (by simp)⟩
      case done =>
        rintro D pre W hD hlen ⟨h1, h2, h3⟩ hK
        have hwe : us.filter (btw (xa, xb) (xc, xd)) = want := HWT.out
        rw [hlen, hwe] at h1
        clear hwe
        have ck : W.cell? ⟨bw + 1, 0, none⟩ = some (.int .i64 want.length) := h1.cell 0
        have cw : W.cell? ⟨bw, 0, none⟩ = some (.slice np want.length nc) := (RW5.out.upd h2 (by simp)).cell 0
        have qe : ((want.length : Int) == (want.length : Int)) = true := by simp
        have RR9 := Lib.hid (RR5.out.upd h2 (by simp))
        have HU9 := Lib.hid (HU5.out.trans h2)
        have HKD := Lib.hid hK
        clear h1 h2 h3 hK hlen
        go_wp2_with fail
        refine (awake_any _).mono ?_
        rintro e w9 ⟨rfl, U9⟩
        have r9 := RR9.out.upd U9 (by simp)
        have c9 : w9.cell? ⟨bbo + 2, 0, none⟩ = some (.bool false) := r9.cell 0
        have f9 := r9.free 0
        have U11 : Upd [] w (w9.setCell ⟨bbo + 2, 0, none⟩ (.bool true)) := (HU9.out.trans U9).setCell_new (p := ⟨bbo + 2, 0, none⟩) (by show w.heap.size ≤ bbo + 2; omega) _
        have r10 := r9.setCell_same 0 (.bool true)
        have hK9 := ((U9.block D (Array.getElem?_eq_some_iff.1 HKD.out).1 (by simp)).trans HKD.out)
        have hK11 : (w9.setCell ⟨bbo + 2, 0, none⟩ (.bool true)).heap[D]? = some (.deferred (some [])) := (Below.heap_setCell _ _ _ _ (by show D ≠ bbo + 2; omega)).trans hK9
        have HF := Lib.hid (And.intro U11 (And.intro r10 hK11))
        clear U9 r9 U11 r10 hK9 hK11
        go_wp2_with fail
        refine ⟨by simp, .inl ⟨_, _, rfl, run_takeDeferred HF.out.2.2, ?_⟩⟩
        have uf := updF_putObj (B := w7.heap.size) _ D _ (.deferred none) hD HF.out.2.2 rfl
        have cr := (uf.row HF.out.2.1 (by simp)).cell 0
        exact ⟨.bool true, by simp at cr; simp [results, Try.results6, go_sem, cr], rfl, uf.upd HF.out.1 (by omega) (by simp)⟩
      case body =>
        rintro l pre ⟨a1, a2⟩ W0 W ⟨h1, h2, h3⟩ ha uN
        dsimp only at ha uN ⊢
        have hwe : us.filter (btw (xa, xb) (xc, xd)) = want := HWT.out
        rw [hwe] at ha
        clear hwe
        have hkl := (List.getElem?_eq_some_iff.1 ha).1
        generalize hk : pre.length = k at *
        obtain ⟨qn, hqn⟩ : ∃ z, z = W0.heap.size := ⟨_, rfl⟩
        have rn := uN.row (IsRow.new W0 [.int .i64 a1, .int .i64 a2] 24) (by simp)
        rw [← hqn] at rn ⊢
        have c17 : W.cell? ⟨qn, 0, none⟩ = some (.int .i64 a1) := rn.cell 0
        have c17' : W.cell? ⟨qn, 1, none⟩ = some (.int .i64 a2) := rn.cell 1
        have ck : W.cell? ⟨bw + 1, 0, none⟩ = some (.int .i64 k) := h1.cell 0
        have cx : W.cell? ⟨bw, 0, none⟩ = some (.slice np want.length nc) := (RW5.out.upd h2 (by simp)).cell 0
        obtain ⟨b6, o6, rfl, hb6, hcx⟩ := ((OW5.out.view'.2).upd h2).cells k _ ha
        obtain ⟨ca, ca'⟩ := hcx k _ ha
        change W.cell? _ = some (.int .i64 a1) at ca
        change W.cell? _ = some (.int .i64 a2) at ca'
        have z1 : decide ((want.length : Int) ≤ (k : Int)) = false := decide_eq_false (by omega)
        have z2 : (k : Int) < (want.length : Int) := by omega
        have z3 : (0 : Int) ≤ (k : Int) := by omega
        have z4 : eqP a1 a2 a1 a2 = true := eqP_refl a1 a2
        have HK := Lib.hid hk
        have H1 := Lib.hid h1
        have H2 := Lib.hid h2
        clear hcx ha hk rn hqn h1 h2 uN
        gi_wp2_with fail
        refine round_quiet (r := l) (by rintro ⟨_, _, hh⟩; exact hh) (by kernel_rfl) (by kernel_rfl) (by kernel_rfl) ?_
        repeat (first | go_big_quiet_step (fail) | quiet_step (fail))
        refine wpQuiet_nil ?_
        intro _ hw'
        obtain ⟨nq, hw''⟩ := hw'
        subst hw''
        have u3 : Upd [] W (W.drewN nq) := (Upd.refl [] W).drewN nq
        have H3 := Lib.hid (H1.out.upd u3 (by simp))
        have H4 := Lib.hid (H2.out.trans u3)
        have U3 := Lib.hid u3
        have hz9 := u3.size
        clear H1 H2 u3 ca ca' cx ck c17 c17' z1 z2 z3 z4 hb6
        generalize W.drewN nq = W2 at H3 H4 U3 hz9 ⊢
        have ck : W2.cell? ⟨bw + 1, 0, none⟩ = some (.int .i64 k) := H3.out.cell 0
        have fk := H3.out.free 0
        obtain ⟨Wa, hWa⟩ : ∃ z, z = W2.setCell ⟨bw + 1, 0, none⟩ (.int .i64 ((k : Int) + 1)) := ⟨_, rfl⟩
        have ua : Upd [bbo + 2, bw + 1] W2 Wa := by rw [hWa]; exact (Upd.refl [bbo + 2, bw + 1] W2).setCell (p := ⟨bw + 1, 0, none⟩) (by simp) _
        have rka : IsRow Wa (bw + 1) 3 [.int .i64 ((k : Int) + 1)] := by rw [hWa]; exact H3.out.setCell_same 0 _
        have uwa : Upd [] w5 Wa := by rw [hWa]; exact H4.out.setCell_new (p := ⟨bw + 1, 0, none⟩) (by show w5.heap.size ≤ bw + 1; omega) _
        have cka : Wa.cell? ⟨bw + 1, 0, none⟩ = some (.int .i64 ((k : Int) + 1)) := rka.cell 0
        have csta : Wa.cell? ⟨bbo + 1, 0, none⟩ = some (.int .i64 stop) := (RS5.out.upd uwa (by simp)).cell 0
        have hszz : w7.heap.size ≤ Wa.heap.size := Nat.le_trans (Nat.le_trans h3 hz9) ua.size
        have hlw : Upd [bbo + 2, bw + 1] W Wa := (U3.out.mono (S' := [bbo + 2, bw + 1]) (by simp)).trans ua
        rw [hWa] at cka csta
        have HWA := Lib.hid hWa
        have HD := Lib.hid (And.intro hlw (And.intro rka (And.intro uwa hszz)))
        clear hWa ua rka uwa hszz hlw h3 H3 H4 U3 hz9
        by_cases hks : (k : Int) + 1 = stop
        · have q1 : ((k : Int) + 1 == stop) = true := by rw [beq_iff_eq]; exact hks
          clear hks
          gi_wp2_with fail
          rw [← HWA.out]
          refine ⟨trivial, CallsIn.mono (CallsIn.inRound l (callsIn_wide.2 (awake_any _))) ?_⟩
          rintro e w9 ⟨rfl, U9⟩
          have r9 := (RR5.out.upd HD.out.2.2.1 (by simp)).upd U9 (by simp)
          have c9 : w9.cell? ⟨bbo + 2, 0, none⟩ = some (.bool false) := r9.cell 0
          have f9 := r9.free 0
          have U11 : Upd [] w (w9.setCell ⟨bbo + 2, 0, none⟩ (.bool true)) := ((HU5.out.trans HD.out.2.2.1).trans U9).setCell_new (p := ⟨bbo + 2, 0, none⟩) (by show w.heap.size ≤ bbo + 2; omega) _
          have r10 := r9.setCell_same 0 (.bool true)
          have U12 : Upd [bbo + 2, bw + 1] W (w9.setCell ⟨bbo + 2, 0, none⟩ (.bool true)) := (HD.out.1.trans (U9.mono (by simp))).setCell (p := ⟨bbo + 2, 0, none⟩) (by simp) _
          have HF := Lib.hid (And.intro U12 (And.intro r10 U11))
          clear U9 r9 U11 r10 U12 csta cka
          gi_wp2_with fail
          exact ⟨HF.out.1, rfl, HF.out.2.1, HF.out.2.2⟩
        · have q1 : ((k : Int) + 1 == stop) = false := by rw [beq_eq_false_iff_ne]; exact hks
          clear hks
          gi_wp2_with fail
          rw [← HWA.out]
          refine ⟨HD.out.1, ?_, HD.out.2.2.1, HD.out.2.2.2⟩
          rw [List.length_append]
          show IsRow Wa (bw + 1) 3 [.int .i64 ((pre.length + 1 : Nat) : Int)]
          rw [HK.out]
          exact HD.out.2.1

end Go.Proofs.Ytpoogkgekeocbaa
