/- The reference's Sorted. -/
import Derived.Test.YtpoogkgekeocbaaH
import Derived.Test.YtpoogkgekeocbaaEq
namespace Go.Proofs.Ytpoogkgekeocbaa
open Go.RowKit
attribute [local go_sem high] run_eq34 run_eq24

theorem Own.view_some {et : TypeId} {w : World} {B n : Nat} {p : Option Addr} {c : Nat} {x : List Pt} (h : Own et w B (.slice p n c) x) : (p = none ∧ c = 0 ∧ x = []) ∨ ∃ g, p = some ⟨g, 0, none⟩ ∧ g < w.heap.size ∧ x.length ≤ c := by
  rcases h.2 with ⟨h1, h2⟩ | ⟨g, cap, cur, h1, hb, hg, hc, _⟩
  · simp only [Value.slice.injEq] at h1
    exact .inl ⟨h1.1, h1.2.2, List.eq_nil_of_length_eq_zero h2⟩
  · simp only [Value.slice.injEq] at h1
    obtain ⟨rfl, _, rfl⟩ := h1
    exact .inr ⟨g, rfl, (Array.getElem?_eq_some_iff.1 hg).1, hc⟩

set_option maxHeartbeats 4000000 in
theorem sorted_any (p : Option Addr) (c : Nat) (xs : List Pt) (w : World) (hx : View w p c xs) (hn : xs.length ≤ 1000000) :
    Calls Try.prog 10 #[.slice p xs.length c] w fun e w' => (∃ v, e = .returned v ∧ Own 34 w' w.heap.size v (uniq false xs)) ∧ Upd [] w w' := by
  have HX := Lib.hid hx
  clear hx
  go_enter Try.func10, Try.ntmps10
  go_wp2_with fail
  go_loopw [3, 4] (fun u3 u4 wr => ∃ (k : Nat) (os : List Pt), k ≤ xs.length ∧ u4 = .int .i64 k ∧ Own 34 wr w.heap.size u3 os ∧ Strict false os ∧ (∀ y, y ∈ os ↔ y ∈ xs.take k) ∧ os.length ≤ k ∧ Upd [] w wr) (fun _ u4 _ => xs.length - (intOf u4).toNat)
  case atStart => exact ⟨0, [], Nat.zero_le _, rfl, Own.nil _ _, List.Pairwise.nil, fun y => by simp, Nat.le_refl _, Upd.refl _ _⟩
  case round =>
    obtain ⟨k, os, hk, rfl, hown, hst, hme, hol, U0⟩ := hrel
    have HST := Lib.hid hst
    have HME := Lib.hid hme
    clear hst hme
    by_cases hkl : k < xs.length
    · obtain ⟨⟨x1, x2⟩, hxk⟩ : ∃ x, xs[k]? = some x := ⟨xs[k], List.getElem?_eq_getElem hkl⟩
      have hmn : ∀ y, y ∈ xs.take (k + 1) ↔ y ∈ xs.take k ∨ y = (x1, x2) := by
        intro y
        rw [List.take_add_one, hxk]
        simp
      obtain ⟨bx, ox, rfl, hbx, hcx⟩ := (HX.out.upd U0).cells k (x1, x2) hxk
      obtain ⟨cx, cx'⟩ := hcx k (x1, x2) hxk
      change wr.cell? _ = some (.int .i64 x1) at cx
      change wr.cell? _ = some (.int .i64 x2) at cx'
      have HMN := Lib.hid hmn
      clear hcx hmn hxk
      obtain ⟨po, co, rfl, hvo⟩ := hown.view
      have hpo := hown.view_some
      have HO := Lib.hid hown
      have HV := Lib.hid hvo
      have hol1 : os.length + 1 ≤ 1000000 := by omega
      clear hown hvo
      obtain ⟨W1, hW1⟩ : ∃ W, W = wr := ⟨_, rfl⟩
      subst hW1
      have HPO := Lib.hid hpo
      clear hpo
      go_wp2_with fail
      go_loopw [5] (fun u5 wq => ∃ n : Nat, n ≤ os.length ∧ u5 = .int .i64 n ∧ (∀ a ∈ os.take n, ltP false a (x1, x2)) ∧ Upd [] W1 wq) (fun u5 _ => os.length - (intOf u5).toNat)
      case atStart => exact ⟨0, Nat.zero_le _, rfl, fun a ha => by simp at ha, Upd.refl _ _⟩
      case round =>
        obtain ⟨n, hn', rfl, hlo, U1⟩ := hrel
        have HLO := Lib.hid hlo
        clear hlo
        have d0 := (U1.cell (p := ⟨bx, ox + k * 2, none⟩) hbx (by simp)).trans cx
        have d1 := (U1.cell (p := ⟨bx, ox + k * 2 + 1, none⟩) hbx (by simp)).trans cx'
        clear cx cx'
        by_cases hnl : n < os.length
        · obtain ⟨⟨y1, y2⟩, hyn⟩ : ∃ y, os[n]? = some y := ⟨os[n], List.getElem?_eq_getElem hnl⟩
          obtain ⟨bo, oo, rfl, hbo, hco⟩ := (HV.out.upd U1).cells n (y1, y2) hyn
          obtain ⟨f0, f1⟩ := hco n (y1, y2) hyn
          change wr.cell? _ = some (.int .i64 y1) at f0
          change wr.cell? _ = some (.int .i64 y2) at f1
          have hbx1 := Nat.lt_of_lt_of_le hbx U1.size
          have HYN := Lib.hid hyn
          clear hco hyn
          by_cases hlt : ltP false (y1, y2) (x1, x2)
          · have ht : ltB false (y1, y2) (x1, x2) = true := decide_eq_true hlt
            have HT := Lib.hid ht
            have HLT := Lib.hid hlt
            clear ht hlt
            go_wp2_with fail
            go_region_held3 (fun w' => w'.cell? ⟨bx, ox + k * 2, none⟩ = some (.int .i64 x1) ∧ w'.cell? ⟨bx, ox + k * 2 + 1, none⟩ = some (.int .i64 x2) ∧ w'.cell? ⟨bo, oo + n * 2, none⟩ = some (.int .i64 y1) ∧ w'.cell? ⟨bo, oo + n * 2 + 1, none⟩ = some (.int .i64 y2)) (first | exact ⟨d0, d1, f0, f1⟩ | exact S9)
              (first | (go_at_call 29; refine (ahead_any (y1, y2) (x1, x2) _).mono ?_; rintro e w9 ⟨rfl, U9⟩; rw [HT.out]; have S9 : w9.cell? ⟨bx, ox + k * 2, none⟩ = some (.int .i64 x1) ∧ w9.cell? ⟨bx, ox + k * 2 + 1, none⟩ = some (.int .i64 x2) ∧ w9.cell? ⟨bo, oo + n * 2, none⟩ = some (.int .i64 y1) ∧ w9.cell? ⟨bo, oo + n * 2 + 1, none⟩ = some (.int .i64 y2) := ⟨(U9.cell (p := ⟨bx, ox + k * 2, none⟩) hbx1 (by simp)).trans d0, (U9.cell (p := ⟨bx, ox + k * 2 + 1, none⟩) hbx1 (by simp)).trans d1, (U9.cell (p := ⟨bo, oo + n * 2, none⟩) hbo (by simp)).trans f0, (U9.cell (p := ⟨bo, oo + n * 2 + 1, none⟩) hbo (by simp)).trans f1⟩))
            have U2 : Upd [] W1 w9 := U1.drew.trans U9
            clear U1 U9 S9 d0 d1 f0 f1
            go_wp2_with fail
            go_roundw
            case rel =>
              refine ⟨n + 1, by omega, by go_num, fun a ha => ?_, U2⟩
              rw [List.take_add_one, HYN.out] at ha
              rcases List.mem_append.1 ha with h | h
              · exact HLO.out a h
              · simp at h; subst h; exact HLT.out
            case measure => simp [intOf]; omega
          · have ht : ltB false (y1, y2) (x1, x2) = false := decide_eq_false hlt
            have HT := Lib.hid ht
            have HLT := Lib.hid hlt
            clear ht hlt
            go_wp2_with fail
            go_region_held3 (fun w' => w'.cell? ⟨bx, ox + k * 2, none⟩ = some (.int .i64 x1) ∧ w'.cell? ⟨bx, ox + k * 2 + 1, none⟩ = some (.int .i64 x2) ∧ w'.cell? ⟨bo, oo + n * 2, none⟩ = some (.int .i64 y1) ∧ w'.cell? ⟨bo, oo + n * 2 + 1, none⟩ = some (.int .i64 y2)) (first | exact ⟨d0, d1, f0, f1⟩ | exact S9)
              (first | (go_at_call 29; refine (ahead_any (y1, y2) (x1, x2) _).mono ?_; rintro e w9 ⟨rfl, U9⟩; rw [HT.out]; have S9 : w9.cell? ⟨bx, ox + k * 2, none⟩ = some (.int .i64 x1) ∧ w9.cell? ⟨bx, ox + k * 2 + 1, none⟩ = some (.int .i64 x2) ∧ w9.cell? ⟨bo, oo + n * 2, none⟩ = some (.int .i64 y1) ∧ w9.cell? ⟨bo, oo + n * 2 + 1, none⟩ = some (.int .i64 y2) := ⟨(U9.cell (p := ⟨bx, ox + k * 2, none⟩) hbx1 (by simp)).trans d0, (U9.cell (p := ⟨bx, ox + k * 2 + 1, none⟩) hbx1 (by simp)).trans d1, (U9.cell (p := ⟨bo, oo + n * 2, none⟩) hbo (by simp)).trans f0, (U9.cell (p := ⟨bo, oo + n * 2 + 1, none⟩) hbo (by simp)).trans f1⟩))
            have U2 : Upd [] W1 w9 := U1.drew.trans U9
            obtain ⟨d0, d1, f0, f1⟩ := S9
            clear U1 U9
            by_cases he : (y1, y2) = (x1, x2)
            · cases he
              have hq : eqP x1 x2 x1 x2 = true := eqP_refl _ _
              go_wp2_with fail
              go_quiet (fail)
              have U3 := U2.drewN nq
              go_wp2_with fail
              go_roundw
              case rel =>
                refine ⟨k + 1, os, by omega, by go_num, (HO.out.kept U3 (fun _ h => nomatch h)), HST.out, fun y => ?_, by omega, U0.trans U3⟩
                rw [HMN.out y, HME.out y]
                constructor
                · exact fun h => .inl h
                · rintro (h | h)
                  · exact h
                  · rw [h, ← HME.out]; exact List.mem_of_getElem? HYN.out
              case measure => simp [intOf]; omega
            · have hq : eqP y1 y2 x1 x2 = false := eqP_ne he
              have HE := Lib.hid he
              clear he
              go_wp2_with fail
              go_quiet (fail)
              have U3 := U2.drewN nq
              have g0 : (w9.drewN nq).cell? ⟨bx, ox + k * 2, none⟩ = some (.int .i64 x1) := d0
              have g1 : (w9.drewN nq).cell? ⟨bx, ox + k * 2 + 1, none⟩ = some (.int .i64 x2) := d1
              clear U2 d0 d1 f0 f1
              generalize w9.drewN nq = W3 at U3 g0 g1 ⊢
              have hle := HV.out.le
              have hcn : ¬ co = n := by omega
              have hnc : (n : Int) ≤ (co : Int) := by omega
              have hnn : (n : Int) ≤ (os.length : Int) := by omega
              have hlc : (os.length : Int) ≤ (co : Int) := by omega
              have HU03 := Lib.hid (U0.trans U3)
              have hbx3 := Nat.lt_of_lt_of_le hbx U3.size
              have HTV : Hid (View W3 (some ⟨bo, oo, none⟩) co (os.take n)) := by
                refine Lib.hid ?_
                have := (HV.out.upd U3).slice2 (lo := 0) (hi := n) (k := co) (p := some ⟨bo, oo, none⟩) (Nat.zero_le _) (by omega) (.inl ⟨by omega, by simp⟩) rfl
                simpa using this
              have HDV : Hid (View W3 (some ⟨bo, oo + n * 2, none⟩) (co - n) (os.drop n)) := by
                refine Lib.hid ?_
                have := (HV.out.upd U3).slice2 (lo := n) (hi := os.length) (k := co - n) (p := some ⟨bo, oo + n * 2, none⟩) (by omega) (Nat.le_refl _) (.inl ⟨hcn, rfl⟩) rfl
                rwa [List.take_of_length_le (by rw [List.length_drop]; omega)] at this
              have HNX : Hid (∀ y, os[n]? = some y → ltP false (x1, x2) y) := by
                refine Lib.hid fun y hy => ?_
                rw [HYN.out] at hy
                cases hy
                rcases ltP_tri false (x1, x2) (y1, y2) with h | h | h
                · exact h
                · exact absurd h.symm HE.out
                · exact absurd h HLT.out
              clear hle U3
              have hlt2 : (os.take n).length = n := by rw [List.length_take]; omega
              have hld2 : (os.drop n).length = os.length - n := List.length_drop
              have HL2 := Lib.hid hlt2
              have HD2 := Lib.hid hld2
              have hl6 : (os.take n).length + 1 ≤ 1048576 := by rw [hlt2]; omega
              have HL6 := Lib.hid hl6
              clear hlt2 hld2 hl6
              go_wp2_with (at_builtin; refine wpList_append_view ty30 rfl _ _ rfl W3.heap.size _ ([] : List Pt) (os.take n) (some ⟨bo, oo, none⟩) co rfl (by rw [HL2.out]; rfl) (Own.nil _ _) HTV.out (Nat.le_refl _) (by rw [HL2.out]; simp; omega) ?_)
              intro v6 w6 ho6 G6
              have U6 : Upd [] W3 w6 := own_grown (x := ([] : List Pt)) (et := 34) (Own.nil _ _) G6 (Upd.refl [] W3) (Nat.le_refl _)
              try rw [List.nil_append] at ho6
              have HO6 := Lib.hid ho6
              have HU6 := Lib.hid U6
              have e0 := (U6.cell (p := ⟨bx, ox + k * 2, none⟩) hbx3 (by simp)).trans g0
              have e1 := (U6.cell (p := ⟨bx, ox + k * 2 + 1, none⟩) hbx3 (by simp)).trans g1
              clear ho6 G6 U6 g0 g1
              go_wp2_with (at_builtin; refine wpList_append_one ty30 (u := (x1, x2)) rfl _ _ rfl W3 _ _ _ 1 (by rfl) (by rfl) (oneAt_new _ (x1, x2) 34) (HO6.out.kept ((Upd.refl [] w6).alloc _) (fun _ h => nomatch h)) (HU6.out.alloc _) HL6.out ?_)
              intro v7 w7 ho7 U7
              have HO7 := Lib.hid ho7
              have HU7 := Lib.hid U7
              clear ho7 U7 e0 e1
              go_wp2_with (at_builtin; refine wpList_append_view ty30 rfl _ _ rfl W3.heap.size _ (os.take n ++ [(x1, x2)]) (os.drop n) (some ⟨bo, oo + n * 2, none⟩) (co - n) rfl (by rw [HD2.out]; rfl) HO7.out (HDV.out.upd HU7.out) HU7.out.size (by rw [List.length_append, HL2.out, HD2.out]; simp; omega) ?_)
              intro v8 w8 ho8 G8
              have U8 : Upd [] W3 w8 := own_grown HO7.out G8 HU7.out (Nat.le_refl _)
              try rw [List.append_assoc] at ho8
              have HO8 := Lib.hid ho8
              have HU8 := Lib.hid U8
              clear ho8 G8 U8
              go_wp2_with fail
              go_roundw
              case rel =>
                refine ⟨k + 1, _, by omega, by go_num, HO8.out.mono HU03.out.size, strict_ins HST.out HLO.out HNX.out, fun y => ?_, ?_, HU03.out.trans HU8.out⟩
                · rw [HMN.out y]; exact (mem_ins os n (x1, x2) y).trans (or_congr (HME.out y) Iff.rfl)
                · have h1 := HL2.out
                  have h2 := HD2.out
                  simp only [List.length_append, List.length_cons, List.length_nil, h1, h2]
                  omega
              case measure => simp [intOf]; omega
        · have hne : n = os.length := by omega
          have HNX : Hid (∀ y, os[n]? = some y → ltP false (x1, x2) y) := by
            refine Lib.hid fun y hy => ?_
            rw [List.getElem?_eq_none (by omega)] at hy
            cases hy
          rcases HPO.out with ⟨rfl, rfl, rfl⟩ | ⟨g, rfl, hgl, hgc⟩
          · have hn0 : n = 0 := by simpa using hne
            subst hn0
            clear hne hnl hol hol1 hn' HPO
            have hol1 : ([] : List Pt).length + 1 ≤ 1000000 := by decide
            have HOL := Lib.hid hol1
            clear hol1
            go_wp2_with fail
            go_quiet (fail)
            have U2 := U1.drewN nq
            have g0 : (wr.drewN nq).cell? ⟨bx, ox + k * 2, none⟩ = some (.int .i64 x1) := d0
            have g1 : (wr.drewN nq).cell? ⟨bx, ox + k * 2 + 1, none⟩ = some (.int .i64 x2) := d1
            clear U1 d0 d1
            generalize wr.drewN nq = W2 at U2 g0 g1 ⊢
            go_wp2_with fail
            go_quiet (fail)
            have U3 := U2.drewN nq
            have d0 : (W2.drewN nq).cell? ⟨bx, ox + k * 2, none⟩ = some (.int .i64 x1) := g0
            have d1 : (W2.drewN nq).cell? ⟨bx, ox + k * 2 + 1, none⟩ = some (.int .i64 x2) := g1
            clear U2 g0 g1
            generalize W2.drewN nq = W3 at U3 d0 d1 ⊢
            have g0 := d0
            have g1 := d1
            clear d0 d1
            have HU03 := Lib.hid (U0.trans U3)
            have hbx3 := Nat.lt_of_lt_of_le hbx U3.size
            have HTV : Hid (View W3 none 0 (([] : List Pt).take 0)) := Lib.hid (by simpa using HV.out.upd U3)
            have HDV : Hid (View W3 none 0 (([] : List Pt).drop 0)) := Lib.hid (by simpa using HV.out.upd U3)
            have hl6 : (([] : List Pt).take 0).length + 1 ≤ 1048576 := by simp
            clear hl6
            go_wp2_with (at_builtin; refine wpList_append_view ty30 rfl _ _ rfl W3.heap.size _ ([] : List Pt) (([] : List Pt).take 0) none 0 rfl (by rfl) (Own.nil _ _) HTV.out (Nat.le_refl _) (by simp) ?_)
            intro v6 w6 ho6 G6
            have U6 : Upd [] W3 w6 := own_grown (x := ([] : List Pt)) (et := 34) (Own.nil _ _) G6 (Upd.refl [] W3) (Nat.le_refl _)
            try rw [List.nil_append] at ho6
            have HO6 := Lib.hid ho6
            have HU6 := Lib.hid U6
            have e0 := (U6.cell (p := ⟨bx, ox + k * 2, none⟩) hbx3 (by simp)).trans g0
            have e1 := (U6.cell (p := ⟨bx, ox + k * 2 + 1, none⟩) hbx3 (by simp)).trans g1
            clear ho6 G6 U6 g0 g1
            go_wp2_with (at_builtin; refine wpList_append_one ty30 (u := (x1, x2)) rfl _ _ rfl W3 _ _ _ 1 (by rfl) (by rfl) (oneAt_new _ (x1, x2) 34) (HO6.out.kept ((Upd.refl [] w6).alloc _) (fun _ h => nomatch h)) (HU6.out.alloc _) (by simp) ?_)
            intro v7 w7 ho7 U7
            have HO7 := Lib.hid ho7
            have HU7 := Lib.hid U7
            clear ho7 U7 e0 e1
            go_wp2_with (at_builtin; refine wpList_append_view ty30 rfl _ _ rfl W3.heap.size _ (([] : List Pt).take 0 ++ [(x1, x2)]) (([] : List Pt).drop 0) none 0 rfl (by rfl) HO7.out (HDV.out.upd HU7.out) HU7.out.size (by simp) ?_)
            intro v8 w8 ho8 G8
            have U8 : Upd [] W3 w8 := own_grown HO7.out G8 HU7.out (Nat.le_refl _)
            try rw [List.append_assoc] at ho8
            have HO8 := Lib.hid ho8
            have HU8 := Lib.hid U8
            clear ho8 G8 U8
            go_wp2_with fail
            go_roundw
            case rel =>
              refine ⟨k + 1, _, by omega, by go_num, HO8.out.mono HU03.out.size, strict_ins HST.out HLO.out HNX.out, fun y => ?_, ?_, HU03.out.trans HU8.out⟩
              · rw [HMN.out y]; exact (mem_ins ([] : List Pt) 0 (x1, x2) y).trans (or_congr (HME.out y) Iff.rfl)
              · simp
            case measure => simp [intOf]; omega
          · have HGC := Lib.hid hgc
            clear hgc
            have HNE := Lib.hid hne
            have hlc : (n : Int) ≤ (co : Int) := by have := HV.out.le; omega
            have hlo2 : (n : Int) ≤ (os.length : Int) := by omega
            have hlo3 : (os.length : Int) ≤ (co : Int) := by have := HV.out.le; omega
            clear hne
            by_cases hcn : co = n
            · have hcT : (co = n) = True := eq_true hcn
              have HCN := Lib.hid hcn
              clear hcn
              go_wp2_with fail
              go_quiet (fail)
              have U2 := U1.drewN nq
              have g0 : (wr.drewN nq).cell? ⟨bx, ox + k * 2, none⟩ = some (.int .i64 x1) := d0
              have g1 : (wr.drewN nq).cell? ⟨bx, ox + k * 2 + 1, none⟩ = some (.int .i64 x2) := d1
              clear U1 d0 d1
              generalize wr.drewN nq = W2 at U2 g0 g1 ⊢
              go_wp2_with fail
              go_quiet (fail)
              have U3 := U2.drewN nq
              have d0 : (W2.drewN nq).cell? ⟨bx, ox + k * 2, none⟩ = some (.int .i64 x1) := g0
              have d1 : (W2.drewN nq).cell? ⟨bx, ox + k * 2 + 1, none⟩ = some (.int .i64 x2) := g1
              clear U2 g0 g1
              generalize W2.drewN nq = W3 at U3 d0 d1 ⊢
              have g0 := d0
              have g1 := d1
              clear d0 d1
              have HU03 := Lib.hid (U0.trans U3)
              have hbx3 := Nat.lt_of_lt_of_le hbx U3.size
              have HTV : Hid (View W3 (some ⟨g, 0, none⟩) co (os.take n)) := by
                have h := HV.out.upd U3
                rw [HNE.out, List.take_length]
                exact Lib.hid h
              have HDV : Hid (View W3 (some ⟨g, 0, none⟩) (co - n) (os.drop n)) := by
                refine Lib.hid ?_
                have := (HV.out.upd U3).slice2 (lo := n) (hi := os.length) (k := co - n) (p := some ⟨g, 0, none⟩) (by omega) (Nat.le_refl _) (.inr ⟨HCN.out, rfl⟩) rfl
                rwa [List.take_of_length_le (by rw [List.length_drop]; omega)] at this
              have hlt2 : (os.take n).length = n := by rw [List.length_take]; omega
              have hld2 : (os.drop n).length = os.length - n := List.length_drop
              have HL2 := Lib.hid hlt2
              have HD2 := Lib.hid hld2
              have hl6 : (os.take n).length + 1 ≤ 1048576 := by rw [hlt2]; omega
              have HL6 := Lib.hid hl6
              clear hlt2 hld2 hl6
              go_wp2_with (at_builtin; refine wpList_append_view ty30 rfl _ _ rfl W3.heap.size _ ([] : List Pt) (os.take n) (some ⟨g, 0, none⟩) co rfl (by rw [HL2.out]; rfl) (Own.nil _ _) HTV.out (Nat.le_refl _) (by rw [HL2.out]; simp; omega) ?_)
              intro v6 w6 ho6 G6
              have U6 : Upd [] W3 w6 := own_grown (x := ([] : List Pt)) (et := 34) (Own.nil _ _) G6 (Upd.refl [] W3) (Nat.le_refl _)
              try rw [List.nil_append] at ho6
              have HO6 := Lib.hid ho6
              have HU6 := Lib.hid U6
              have e0 := (U6.cell (p := ⟨bx, ox + k * 2, none⟩) hbx3 (by simp)).trans g0
              have e1 := (U6.cell (p := ⟨bx, ox + k * 2 + 1, none⟩) hbx3 (by simp)).trans g1
              clear ho6 G6 U6 g0 g1
              go_wp2_with (at_builtin; refine wpList_append_one ty30 (u := (x1, x2)) rfl _ _ rfl W3 _ _ _ 1 (by rfl) (by rfl) (oneAt_new _ (x1, x2) 34) (HO6.out.kept ((Upd.refl [] w6).alloc _) (fun _ h => nomatch h)) (HU6.out.alloc _) HL6.out ?_)
              intro v7 w7 ho7 U7
              have HO7 := Lib.hid ho7
              have HU7 := Lib.hid U7
              clear ho7 U7 e0 e1
              go_wp2_with (at_builtin; refine wpList_append_view ty30 rfl _ _ rfl W3.heap.size _ (os.take n ++ [(x1, x2)]) (os.drop n) (some ⟨g, 0, none⟩) (co - n) rfl (by rw [HD2.out]; rfl) HO7.out (HDV.out.upd HU7.out) HU7.out.size (by rw [List.length_append, HL2.out, HD2.out]; simp; omega) ?_)
              intro v8 w8 ho8 G8
              have U8 : Upd [] W3 w8 := own_grown HO7.out G8 HU7.out (Nat.le_refl _)
              try rw [List.append_assoc] at ho8
              have HO8 := Lib.hid ho8
              have HU8 := Lib.hid U8
              clear ho8 G8 U8
              go_wp2_with fail
              go_roundw
              case rel =>
                refine ⟨k + 1, _, by omega, by go_num, HO8.out.mono HU03.out.size, strict_ins HST.out HLO.out HNX.out, fun y => ?_, ?_, HU03.out.trans HU8.out⟩
                · rw [HMN.out y]; exact (mem_ins os n (x1, x2) y).trans (or_congr (HME.out y) Iff.rfl)
                · have h1 := HL2.out
                  have h2 := HD2.out
                  simp only [List.length_append, List.length_cons, List.length_nil, h1, h2]
                  omega
              case measure => simp [intOf]; omega
            · have HCN := Lib.hid hcn
              go_wp2_with fail
              go_quiet (fail)
              have U2 := U1.drewN nq
              have g0 : (wr.drewN nq).cell? ⟨bx, ox + k * 2, none⟩ = some (.int .i64 x1) := d0
              have g1 : (wr.drewN nq).cell? ⟨bx, ox + k * 2 + 1, none⟩ = some (.int .i64 x2) := d1
              clear U1 d0 d1
              generalize wr.drewN nq = W2 at U2 g0 g1 ⊢
              go_wp2_with fail
              go_quiet (fail)
              have U3 := U2.drewN nq
              have d0 : (W2.drewN nq).cell? ⟨bx, ox + k * 2, none⟩ = some (.int .i64 x1) := g0
              have d1 : (W2.drewN nq).cell? ⟨bx, ox + k * 2 + 1, none⟩ = some (.int .i64 x2) := g1
              clear U2 g0 g1
              generalize W2.drewN nq = W3 at U3 d0 d1 ⊢
              have g0 := d0
              have g1 := d1
              clear d0 d1
              have HU03 := Lib.hid (U0.trans U3)
              have hbx3 := Nat.lt_of_lt_of_le hbx U3.size
              have HTV : Hid (View W3 (some ⟨g, 0, none⟩) co (os.take n)) := by
                have h := HV.out.upd U3
                rw [HNE.out, List.take_length]
                exact Lib.hid h
              have HDV : Hid (View W3 (some ⟨g, n * 2, none⟩) (co - n) (os.drop n)) := by
                refine Lib.hid ?_
                have := (HV.out.upd U3).slice2 (lo := n) (hi := os.length) (k := co - n) (p := some ⟨g, n * 2, none⟩) (by omega) (Nat.le_refl _) (.inl ⟨HCN.out, by simp⟩) rfl
                rwa [List.take_of_length_le (by rw [List.length_drop]; omega)] at this
              have hlt2 : (os.take n).length = n := by rw [List.length_take]; omega
              have hld2 : (os.drop n).length = os.length - n := List.length_drop
              have HL2 := Lib.hid hlt2
              have HD2 := Lib.hid hld2
              have hl6 : (os.take n).length + 1 ≤ 1048576 := by rw [hlt2]; omega
              have HL6 := Lib.hid hl6
              clear hlt2 hld2 hl6
              go_wp2_with (at_builtin; refine wpList_append_view ty30 rfl _ _ rfl W3.heap.size _ ([] : List Pt) (os.take n) (some ⟨g, 0, none⟩) co rfl (by rw [HL2.out]; rfl) (Own.nil _ _) HTV.out (Nat.le_refl _) (by rw [HL2.out]; simp; omega) ?_)
              intro v6 w6 ho6 G6
              have U6 : Upd [] W3 w6 := own_grown (x := ([] : List Pt)) (et := 34) (Own.nil _ _) G6 (Upd.refl [] W3) (Nat.le_refl _)
              try rw [List.nil_append] at ho6
              have HO6 := Lib.hid ho6
              have HU6 := Lib.hid U6
              have e0 := (U6.cell (p := ⟨bx, ox + k * 2, none⟩) hbx3 (by simp)).trans g0
              have e1 := (U6.cell (p := ⟨bx, ox + k * 2 + 1, none⟩) hbx3 (by simp)).trans g1
              clear ho6 G6 U6 g0 g1
              go_wp2_with (at_builtin; refine wpList_append_one ty30 (u := (x1, x2)) rfl _ _ rfl W3 _ _ _ 1 (by rfl) (by rfl) (oneAt_new _ (x1, x2) 34) (HO6.out.kept ((Upd.refl [] w6).alloc _) (fun _ h => nomatch h)) (HU6.out.alloc _) HL6.out ?_)
              intro v7 w7 ho7 U7
              have HO7 := Lib.hid ho7
              have HU7 := Lib.hid U7
              clear ho7 U7 e0 e1
              go_wp2_with (at_builtin; refine wpList_append_view ty30 rfl _ _ rfl W3.heap.size _ (os.take n ++ [(x1, x2)]) (os.drop n) (some ⟨g, n * 2, none⟩) (co - n) rfl (by rw [HD2.out]; rfl) HO7.out (HDV.out.upd HU7.out) HU7.out.size (by rw [List.length_append, HL2.out, HD2.out]; simp; omega) ?_)
              intro v8 w8 ho8 G8
              have U8 : Upd [] W3 w8 := own_grown HO7.out G8 HU7.out (Nat.le_refl _)
              try rw [List.append_assoc] at ho8
              have HO8 := Lib.hid ho8
              have HU8 := Lib.hid U8
              clear ho8 G8 U8
              go_wp2_with fail
              go_roundw
              case rel =>
                refine ⟨k + 1, _, by omega, by go_num, HO8.out.mono HU03.out.size, strict_ins HST.out HLO.out HNX.out, fun y => ?_, ?_, HU03.out.trans HU8.out⟩
                · rw [HMN.out y]; exact (mem_ins os n (x1, x2) y).trans (or_congr (HME.out y) Iff.rfl)
                · have h1 := HL2.out
                  have h2 := HD2.out
                  simp only [List.length_append, List.length_cons, List.length_nil, h1, h2]
                  omega
              case measure => simp [intOf]; omega
    · have hke : k = xs.length := by omega
      subst hke
      rw [List.take_length] at HME
      have hu := eq_uniq HST.out HME.out
      subst hu
      go_wp2_with fail
      go_ret
      exact ⟨⟨_, rfl, hown⟩, U0⟩

end Go.Proofs.Ytpoogkgekeocbaa
