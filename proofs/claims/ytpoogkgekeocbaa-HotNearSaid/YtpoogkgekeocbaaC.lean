/- Sort of points. -/
import Derived.Test.YtpoogkgekeocbaaB
namespace Go.Proofs.Ytpoogkgekeocbaa
open Go.RowKit

theorem merge_false' (p q : Option Addr) (c d n m : Nat) (xs ys : List Pt) (w : World) (hx : View w p c xs) (hy : View w q d ys) (hn : xs.length + ys.length ≤ 1048576) (h1 : xs.length = n) (h2 : ys.length = m) :
    Calls Try.prog 44 #[.slice p n c, .slice q m d, .func (.func 23) #[] #[]] w fun e w' => (∃ v, e = .returned v ∧ Own 24 w' w.heap.size v (mergeP false xs ys)) ∧ Upd [] w w' := by
  subst h1 h2
  exact merge_false p q c d xs ys w hx hy hn

set_option maxHeartbeats 2000000 in
theorem sort_false (p : Option Addr) (c : Nat) (xs : List Pt) (w : World) (hx : View w p c xs) (hn : xs.length ≤ 1048576) :
    Calls Try.prog 25 #[.slice p xs.length c, .func (.func 23) #[] #[]] w fun e w' => (∃ v ys, e = .returned v ∧ Own 24 w' w.heap.size v ys ∧ Sorted false ys ∧ ys.Perm xs) ∧ Upd [] w w' := by
  have HX := Lib.hid hx
  clear hx
  go_enter Try.func25, Try.ntmps25
  go_wp2_with (go_at_call 43; refine (clone_any _ _ xs _ HX.out hn).mono ?_; rintro e w' ⟨⟨v, rfl, hov⟩, U0⟩)
  have HOV := Lib.hid hov
  clear hov
  go_wp2_with fail
  go_loopw [5, 6] (fun u5 u6 wr => ∃ (s : Nat) (os : List Pt), 1 ≤ s ∧ s ≤ 2097152 ∧ u6 = .int .i64 s ∧ os.length = xs.length ∧ os.Perm xs ∧ Pieces false s os ∧ Own 24 wr w.heap.size u5 os ∧ Upd [] w wr) (fun _ u6 _ => xs.length - (intOf u6).toNat)
  case atStart => exact ⟨1, xs, Nat.le_refl _, by omega, rfl, rfl, List.Perm.refl _, pieces_one _ _, HOV.out, U0⟩
  case round =>
    obtain ⟨s, os, hs1, hs2, rfl, hosl, hal, hpc, hown, U1⟩ := hrel
    obtain ⟨po, co, rfl, hvo⟩ := hown.view
    have hvle := hvo.le
    have HV := Lib.hid hvo
    have HO := Lib.hid hown
    have HL := Lib.hid hosl
    have HA := Lib.hid hal
    have HP := Lib.hid hpc
    have hol : os.length ≤ 1048576 := by omega
    clear hosl hal hpc hown hvo
    by_cases hsl : s < os.length
    · obtain ⟨W1, hW1⟩ : ∃ W, W = wr := ⟨_, rfl⟩
      subst hW1
      go_wp2_with fail
      go_loopw [7, 8] (fun u7 u8 wq => ∃ (j : Nat) (nx : List Pt), u8 = .int .i64 (j * (2 * s) : Nat) ∧ (j * (2 * s) < os.length + 2 * s) ∧ Pass false s os j nx ∧ Own 24 wq W1.heap.size u7 nx ∧ Upd [] W1 wq) (fun _ u8 _ => os.length + 2 * s - (intOf u8).toNat)
      case atStart => exact ⟨0, [], by simp, by omega, Pass.zero _ _ _, Own.nil _ _, Upd.refl _ _⟩
      case round =>
        obtain ⟨j, nx, rfl, hjb, hpass, hown7, U2⟩ := hrel
        have HPS := Lib.hid hpass
        have HO7 := Lib.hid hown7
        have hnl := hpass.len
        have HNL := Lib.hid hnl
        clear hpass hown7 hnl
        generalize hat : j * (2 * s) = t at hjb
        have HAT := Lib.hid hat
        clear hat
        by_cases htl : t < os.length
        · obtain ⟨z, hz⟩ : ∃ z, os[t]? = some z := ⟨os[t], List.getElem?_eq_getElem htl⟩
          obtain ⟨bo, oo, rfl, _, _⟩ := HV.out.cells t z hz
          clear hz
          by_cases hm : t + s ≤ os.length
          · by_cases he : t + 2 * s ≤ os.length
            · have hcm : ¬ co = t + s := by omega
              have hnx : Pass false s os (j + 1) (nx ++ mergeP false ((os.drop t).take (t + s - t)) ((os.drop (t + s)).take (t + 2 * s - (t + s)))) := HPS.out.next HP.out (by rw [HAT.out]; exact htl) (by rw [HAT.out]; exact take_alike (.inl (by omega))) (by rw [HAT.out]; exact take_alike (.inl (by omega)))
              have hML : nx.length + (mergeP false ((os.drop t).take (t + s - t)) ((os.drop (t + s)).take (t + 2 * s - (t + s)))).length ≤ 1048576 := by
                have := hnx.len
                rw [List.length_append] at this
                omega
              have hAB : ((os.drop t).take (t + s - t)).length + ((os.drop (t + s)).take (t + 2 * s - (t + s))).length ≤ 1048576 := by
                rw [← mergeP_len false]; omega
              have HNX := Lib.hid hnx
              clear hnx
              have a1 : (t : Int) ≤ ((t : Int) + (s : Int)) := by omega
              have a2 : ((t : Int) + (s : Int)) ≤ (co : Int) := by omega
              have a3 : (0 : Int) ≤ ((t : Int) + (s : Int)) := by omega
              have a4 : ((t : Int) + (s : Int)) ≤ ((t : Int) + 2 * (s : Int)) := by omega
              have a5 : ((t : Int) + 2 * (s : Int)) ≤ (co : Int) := by omega
              have e1 : (((t : Int) + (s : Int))).toNat = t + s := by omega
              have e2 : (((t : Int) + 2 * (s : Int))).toNat = t + 2 * s := by omega
              have hct : ¬ co = t := by omega
              go_wp2_with fail
              go_region_held3 (fun _ => True) (trivial) (first | (go_at_call 44; refine (merge_false' _ _ _ _ _ _ ((os.drop t).take (t + s - t)) ((os.drop (t + s)).take (t + 2 * s - (t + s))) _ ((HV.out.upd U2.drew).slice2 (by omega) (by omega) (.inl ⟨hct, rfl⟩) rfl) ((HV.out.upd U2.drew).slice2 (by omega) (by omega) (.inl ⟨hcm, rfl⟩) rfl) hAB (by rw [List.length_take, List.length_drop]; omega) (by rw [List.length_take, List.length_drop]; omega)).mono ?_; rintro e w3 ⟨⟨vm, rfl, hom⟩, U3⟩; have HOM := Lib.hid hom; clear hom; have U4 := U2.drew.trans U3; have U5 := ((Upd.refl [] wr).drew).trans U3) | (refine step_append_view ty22 rfl (.tmp 40) (.tmp 50) rfl W1 u7 nx _ vm (by rfl) (by rfl) (HO7.out.kept U5 (by simp)) _ HOM.out (by first | exact U4 | exact U4.drew) hML ?_; intro v6 w6 ho6 U6))
              go_wp2_with fail
              go_roundw
              case rel =>
                have e7 : (j + 1) * (2 * s) = t + 2 * s := by rw [Nat.succ_mul, HAT.out]
                refine ⟨j + 1, _, ?_, ?_, HNX.out, ho6, U6⟩
                · rw [e7]; go_num
                · rw [e7]; omega
              case measure => simp [intOf]; omega
            · by_cases hcm : co = t + s
              · skip
                have hnx : Pass false s os (j + 1) (nx ++ mergeP false ((os.drop t).take (t + s - t)) ((os.drop (t + s)).take (os.length - (t + s)))) := HPS.out.next HP.out (by rw [HAT.out]; exact htl) (by rw [HAT.out]; exact take_alike (.inl (by omega))) (by rw [HAT.out]; exact take_alike (.inr ⟨by rw [List.length_drop]; omega, by rw [List.length_drop]; omega⟩))
                have hML : nx.length + (mergeP false ((os.drop t).take (t + s - t)) ((os.drop (t + s)).take (os.length - (t + s)))).length ≤ 1048576 := by
                  have := hnx.len
                  rw [List.length_append] at this
                  omega
                have hAB : ((os.drop t).take (t + s - t)).length + ((os.drop (t + s)).take (os.length - (t + s))).length ≤ 1048576 := by
                  rw [← mergeP_len false]; omega
                have HNX := Lib.hid hnx
                clear hnx
                have a1 : (t : Int) ≤ ((t : Int) + (s : Int)) := by omega
                have a2 : ((t : Int) + (s : Int)) ≤ (co : Int) := by omega
                have a3 : (0 : Int) ≤ ((t : Int) + (s : Int)) := by omega
                have a4 : ((t : Int) + (s : Int)) ≤ (os.length : Int) := by omega
                have a5 : (os.length : Int) ≤ (co : Int) := by omega
                have e1 : (((t : Int) + (s : Int))).toNat = t + s := by omega
                have e2 : ((os.length : Int)).toNat = os.length := by omega
                have hct : ¬ co = t := by omega
                have HCM := Lib.hid hcm
                have hcmT : (co = t + s) = True := eq_true hcm
                clear hcm
                go_wp2_with fail
                go_region_held3 (fun _ => True) (trivial) (first | (go_at_call 44; refine (merge_false' _ _ _ _ _ _ ((os.drop t).take (t + s - t)) ((os.drop (t + s)).take (os.length - (t + s))) _ ((HV.out.upd U2.drew).slice2 (by omega) (by omega) (.inl ⟨hct, rfl⟩) rfl) ((HV.out.upd U2.drew).slice2 (by omega) (by omega) (.inr ⟨HCM.out, rfl⟩) rfl) hAB (by rw [List.length_take, List.length_drop]; omega) (by rw [List.length_take, List.length_drop]; omega)).mono ?_; rintro e w3 ⟨⟨vm, rfl, hom⟩, U3⟩; have HOM := Lib.hid hom; clear hom; have U4 := U2.drew.trans U3; have U5 := ((Upd.refl [] wr).drew).trans U3) | (refine step_append_view ty22 rfl (.tmp 40) (.tmp 50) rfl W1 u7 nx _ vm (by rfl) (by rfl) (HO7.out.kept U5 (by simp)) _ HOM.out (by first | exact U4 | exact U4.drew) hML ?_; intro v6 w6 ho6 U6))
                go_wp2_with fail
                go_roundw
                case rel =>
                  have e7 : (j + 1) * (2 * s) = t + 2 * s := by rw [Nat.succ_mul, HAT.out]
                  refine ⟨j + 1, _, ?_, ?_, HNX.out, ho6, U6⟩
                  · rw [e7]; go_num
                  · rw [e7]; omega
                case measure => simp [intOf]; omega
              · skip
                have hnx : Pass false s os (j + 1) (nx ++ mergeP false ((os.drop t).take (t + s - t)) ((os.drop (t + s)).take (os.length - (t + s)))) := HPS.out.next HP.out (by rw [HAT.out]; exact htl) (by rw [HAT.out]; exact take_alike (.inl (by omega))) (by rw [HAT.out]; exact take_alike (.inr ⟨by rw [List.length_drop]; omega, by rw [List.length_drop]; omega⟩))
                have hML : nx.length + (mergeP false ((os.drop t).take (t + s - t)) ((os.drop (t + s)).take (os.length - (t + s)))).length ≤ 1048576 := by
                  have := hnx.len
                  rw [List.length_append] at this
                  omega
                have hAB : ((os.drop t).take (t + s - t)).length + ((os.drop (t + s)).take (os.length - (t + s))).length ≤ 1048576 := by
                  rw [← mergeP_len false]; omega
                have HNX := Lib.hid hnx
                clear hnx
                have a1 : (t : Int) ≤ ((t : Int) + (s : Int)) := by omega
                have a2 : ((t : Int) + (s : Int)) ≤ (co : Int) := by omega
                have a3 : (0 : Int) ≤ ((t : Int) + (s : Int)) := by omega
                have a4 : ((t : Int) + (s : Int)) ≤ (os.length : Int) := by omega
                have a5 : (os.length : Int) ≤ (co : Int) := by omega
                have e1 : (((t : Int) + (s : Int))).toNat = t + s := by omega
                have e2 : ((os.length : Int)).toNat = os.length := by omega
                have hct : ¬ co = t := by omega
                go_wp2_with fail
                go_region_held3 (fun _ => True) (trivial) (first | (go_at_call 44; refine (merge_false' _ _ _ _ _ _ ((os.drop t).take (t + s - t)) ((os.drop (t + s)).take (os.length - (t + s))) _ ((HV.out.upd U2.drew).slice2 (by omega) (by omega) (.inl ⟨hct, rfl⟩) rfl) ((HV.out.upd U2.drew).slice2 (by omega) (by omega) (.inl ⟨hcm, rfl⟩) rfl) hAB (by rw [List.length_take, List.length_drop]; omega) (by rw [List.length_take, List.length_drop]; omega)).mono ?_; rintro e w3 ⟨⟨vm, rfl, hom⟩, U3⟩; have HOM := Lib.hid hom; clear hom; have U4 := U2.drew.trans U3; have U5 := ((Upd.refl [] wr).drew).trans U3) | (refine step_append_view ty22 rfl (.tmp 40) (.tmp 50) rfl W1 u7 nx _ vm (by rfl) (by rfl) (HO7.out.kept U5 (by simp)) _ HOM.out (by first | exact U4 | exact U4.drew) hML ?_; intro v6 w6 ho6 U6))
                go_wp2_with fail
                go_roundw
                case rel =>
                  have e7 : (j + 1) * (2 * s) = t + 2 * s := by rw [Nat.succ_mul, HAT.out]
                  refine ⟨j + 1, _, ?_, ?_, HNX.out, ho6, U6⟩
                  · rw [e7]; go_num
                  · rw [e7]; omega
                case measure => simp [intOf]; omega
          · by_cases hcm : co = os.length
            · skip
              have hnx : Pass false s os (j + 1) (nx ++ mergeP false ((os.drop t).take (os.length - t)) ((os.drop (os.length)).take (os.length - (os.length)))) := HPS.out.next HP.out (by rw [HAT.out]; exact htl) (by rw [HAT.out]; exact take_alike (.inr ⟨by rw [List.length_drop]; omega, by rw [List.length_drop]; omega⟩)) (by rw [HAT.out, List.drop_of_length_le (Nat.le_refl _), List.drop_of_length_le (by omega), List.take_nil, List.take_nil])
              have hML : nx.length + (mergeP false ((os.drop t).take (os.length - t)) ((os.drop (os.length)).take (os.length - (os.length)))).length ≤ 1048576 := by
                have := hnx.len
                rw [List.length_append] at this
                omega
              have hAB : ((os.drop t).take (os.length - t)).length + ((os.drop (os.length)).take (os.length - (os.length))).length ≤ 1048576 := by
                rw [← mergeP_len false]; omega
              have HNX := Lib.hid hnx
              clear hnx
              have a1 : (t : Int) ≤ (os.length : Int) := by omega
              have a2 : (os.length : Int) ≤ (co : Int) := by omega
              have a3 : (0 : Int) ≤ (os.length : Int) := by omega
              have a4 : (os.length : Int) ≤ (os.length : Int) := by omega
              have a5 : (os.length : Int) ≤ (co : Int) := by omega
              have e1 : ((os.length : Int)).toNat = os.length := by omega
              have e2 : ((os.length : Int)).toNat = os.length := by omega
              have hct : ¬ co = t := by omega
              have HCM := Lib.hid hcm
              have hcmT : (co = os.length) = True := eq_true hcm
              clear hcm
              go_wp2_with fail
              go_region_held3 (fun _ => True) (trivial) (first | (go_at_call 44; refine (merge_false' _ _ _ _ _ _ ((os.drop t).take (os.length - t)) ((os.drop (os.length)).take (os.length - (os.length))) _ ((HV.out.upd U2.drew).slice2 (by omega) (by omega) (.inl ⟨hct, rfl⟩) rfl) ((HV.out.upd U2.drew).slice2 (by omega) (by omega) (.inr ⟨HCM.out, rfl⟩) rfl) hAB (by rw [List.length_take, List.length_drop]; omega) (by rw [List.length_take, List.length_drop]; omega)).mono ?_; rintro e w3 ⟨⟨vm, rfl, hom⟩, U3⟩; have HOM := Lib.hid hom; clear hom; have U4 := U2.drew.trans U3; have U5 := ((Upd.refl [] wr).drew).trans U3) | (refine step_append_view ty22 rfl (.tmp 40) (.tmp 50) rfl W1 u7 nx _ vm (by rfl) (by rfl) (HO7.out.kept U5 (by simp)) _ HOM.out (by first | exact U4 | exact U4.drew) hML ?_; intro v6 w6 ho6 U6))
              go_wp2_with fail
              go_roundw
              case rel =>
                have e7 : (j + 1) * (2 * s) = t + 2 * s := by rw [Nat.succ_mul, HAT.out]
                refine ⟨j + 1, _, ?_, ?_, HNX.out, ho6, U6⟩
                · rw [e7]; go_num
                · rw [e7]; omega
              case measure => simp [intOf]; omega
            · skip
              have hnx : Pass false s os (j + 1) (nx ++ mergeP false ((os.drop t).take (os.length - t)) ((os.drop (os.length)).take (os.length - (os.length)))) := HPS.out.next HP.out (by rw [HAT.out]; exact htl) (by rw [HAT.out]; exact take_alike (.inr ⟨by rw [List.length_drop]; omega, by rw [List.length_drop]; omega⟩)) (by rw [HAT.out, List.drop_of_length_le (Nat.le_refl _), List.drop_of_length_le (by omega), List.take_nil, List.take_nil])
              have hML : nx.length + (mergeP false ((os.drop t).take (os.length - t)) ((os.drop (os.length)).take (os.length - (os.length)))).length ≤ 1048576 := by
                have := hnx.len
                rw [List.length_append] at this
                omega
              have hAB : ((os.drop t).take (os.length - t)).length + ((os.drop (os.length)).take (os.length - (os.length))).length ≤ 1048576 := by
                rw [← mergeP_len false]; omega
              have HNX := Lib.hid hnx
              clear hnx
              have a1 : (t : Int) ≤ (os.length : Int) := by omega
              have a2 : (os.length : Int) ≤ (co : Int) := by omega
              have a3 : (0 : Int) ≤ (os.length : Int) := by omega
              have a4 : (os.length : Int) ≤ (os.length : Int) := by omega
              have a5 : (os.length : Int) ≤ (co : Int) := by omega
              have e1 : ((os.length : Int)).toNat = os.length := by omega
              have e2 : ((os.length : Int)).toNat = os.length := by omega
              have hct : ¬ co = t := by omega
              go_wp2_with fail
              go_region_held3 (fun _ => True) (trivial) (first | (go_at_call 44; refine (merge_false' _ _ _ _ _ _ ((os.drop t).take (os.length - t)) ((os.drop (os.length)).take (os.length - (os.length))) _ ((HV.out.upd U2.drew).slice2 (by omega) (by omega) (.inl ⟨hct, rfl⟩) rfl) ((HV.out.upd U2.drew).slice2 (by omega) (by omega) (.inl ⟨hcm, rfl⟩) rfl) hAB (by rw [List.length_take, List.length_drop]; omega) (by rw [List.length_take, List.length_drop]; omega)).mono ?_; rintro e w3 ⟨⟨vm, rfl, hom⟩, U3⟩; have HOM := Lib.hid hom; clear hom; have U4 := U2.drew.trans U3; have U5 := ((Upd.refl [] wr).drew).trans U3) | (refine step_append_view ty22 rfl (.tmp 40) (.tmp 50) rfl W1 u7 nx _ vm (by rfl) (by rfl) (HO7.out.kept U5 (by simp)) _ HOM.out (by first | exact U4 | exact U4.drew) hML ?_; intro v6 w6 ho6 U6))
              go_wp2_with fail
              go_roundw
              case rel =>
                have e7 : (j + 1) * (2 * s) = t + 2 * s := by rw [Nat.succ_mul, HAT.out]
                refine ⟨j + 1, _, ?_, ?_, HNX.out, ho6, U6⟩
                · rw [e7]; go_num
                · rw [e7]; omega
              case measure => simp [intOf]; omega
        · have hpd := HPS.out.done (by rw [HAT.out]; omega)
          have HPD := Lib.hid hpd
          clear hpd
          go_wp2_with fail
          go_roundw
          case rel =>
            refine ⟨2 * s, nx, by omega, by omega, by go_num, HPD.out.2.2.trans HL.out, HPD.out.2.1.trans HA.out, HPD.out.1, HO7.out.mono U1.size, U1.trans U2⟩
          case measure => have := HL.out; simp [intOf]; omega
    · go_wp2_with fail
      go_ret
      exact ⟨⟨_, os, rfl, HO.out, pieces_whole HP.out (by omega), HA.out⟩, U1⟩

theorem merge_true' (p q : Option Addr) (c d n m : Nat) (xs ys : List Pt) (w : World) (hx : View w p c xs) (hy : View w q d ys) (hn : xs.length + ys.length ≤ 1048576) (h1 : xs.length = n) (h2 : ys.length = m) :
    Calls Try.prog 44 #[.slice p n c, .slice q m d, .func (.func 26) #[] #[]] w fun e w' => (∃ v, e = .returned v ∧ Own 24 w' w.heap.size v (mergeP true xs ys)) ∧ Upd [] w w' := by
  subst h1 h2
  exact merge_true p q c d xs ys w hx hy hn

set_option maxHeartbeats 2000000 in
theorem sort_true (p : Option Addr) (c : Nat) (xs : List Pt) (w : World) (hx : View w p c xs) (hn : xs.length ≤ 1048576) :
    Calls Try.prog 25 #[.slice p xs.length c, .func (.func 26) #[] #[]] w fun e w' => (∃ v ys, e = .returned v ∧ Own 24 w' w.heap.size v ys ∧ Sorted true ys ∧ ys.Perm xs) ∧ Upd [] w w' := by
  have HX := Lib.hid hx
  clear hx
  go_enter Try.func25, Try.ntmps25
  go_wp2_with (go_at_call 43; refine (clone_any _ _ xs _ HX.out hn).mono ?_; rintro e w' ⟨⟨v, rfl, hov⟩, U0⟩)
  have HOV := Lib.hid hov
  clear hov
  go_wp2_with fail
  go_loopw [5, 6] (fun u5 u6 wr => ∃ (s : Nat) (os : List Pt), 1 ≤ s ∧ s ≤ 2097152 ∧ u6 = .int .i64 s ∧ os.length = xs.length ∧ os.Perm xs ∧ Pieces true s os ∧ Own 24 wr w.heap.size u5 os ∧ Upd [] w wr) (fun _ u6 _ => xs.length - (intOf u6).toNat)
  case atStart => exact ⟨1, xs, Nat.le_refl _, by omega, rfl, rfl, List.Perm.refl _, pieces_one _ _, HOV.out, U0⟩
  case round =>
    obtain ⟨s, os, hs1, hs2, rfl, hosl, hal, hpc, hown, U1⟩ := hrel
    obtain ⟨po, co, rfl, hvo⟩ := hown.view
    have hvle := hvo.le
    have HV := Lib.hid hvo
    have HO := Lib.hid hown
    have HL := Lib.hid hosl
    have HA := Lib.hid hal
    have HP := Lib.hid hpc
    have hol : os.length ≤ 1048576 := by omega
    clear hosl hal hpc hown hvo
    by_cases hsl : s < os.length
    · obtain ⟨W1, hW1⟩ : ∃ W, W = wr := ⟨_, rfl⟩
      subst hW1
      go_wp2_with fail
      go_loopw [7, 8] (fun u7 u8 wq => ∃ (j : Nat) (nx : List Pt), u8 = .int .i64 (j * (2 * s) : Nat) ∧ (j * (2 * s) < os.length + 2 * s) ∧ Pass true s os j nx ∧ Own 24 wq W1.heap.size u7 nx ∧ Upd [] W1 wq) (fun _ u8 _ => os.length + 2 * s - (intOf u8).toNat)
      case atStart => exact ⟨0, [], by simp, by omega, Pass.zero _ _ _, Own.nil _ _, Upd.refl _ _⟩
      case round =>
        obtain ⟨j, nx, rfl, hjb, hpass, hown7, U2⟩ := hrel
        have HPS := Lib.hid hpass
        have HO7 := Lib.hid hown7
        have hnl := hpass.len
        have HNL := Lib.hid hnl
        clear hpass hown7 hnl
        generalize hat : j * (2 * s) = t at hjb
        have HAT := Lib.hid hat
        clear hat
        by_cases htl : t < os.length
        · obtain ⟨z, hz⟩ : ∃ z, os[t]? = some z := ⟨os[t], List.getElem?_eq_getElem htl⟩
          obtain ⟨bo, oo, rfl, _, _⟩ := HV.out.cells t z hz
          clear hz
          by_cases hm : t + s ≤ os.length
          · by_cases he : t + 2 * s ≤ os.length
            · have hcm : ¬ co = t + s := by omega
              have hnx : Pass true s os (j + 1) (nx ++ mergeP true ((os.drop t).take (t + s - t)) ((os.drop (t + s)).take (t + 2 * s - (t + s)))) := HPS.out.next HP.out (by rw [HAT.out]; exact htl) (by rw [HAT.out]; exact take_alike (.inl (by omega))) (by rw [HAT.out]; exact take_alike (.inl (by omega)))
              have hML : nx.length + (mergeP true ((os.drop t).take (t + s - t)) ((os.drop (t + s)).take (t + 2 * s - (t + s)))).length ≤ 1048576 := by
                have := hnx.len
                rw [List.length_append] at this
                omega
              have hAB : ((os.drop t).take (t + s - t)).length + ((os.drop (t + s)).take (t + 2 * s - (t + s))).length ≤ 1048576 := by
                rw [← mergeP_len true]; omega
              have HNX := Lib.hid hnx
              clear hnx
              have a1 : (t : Int) ≤ ((t : Int) + (s : Int)) := by omega
              have a2 : ((t : Int) + (s : Int)) ≤ (co : Int) := by omega
              have a3 : (0 : Int) ≤ ((t : Int) + (s : Int)) := by omega
              have a4 : ((t : Int) + (s : Int)) ≤ ((t : Int) + 2 * (s : Int)) := by omega
              have a5 : ((t : Int) + 2 * (s : Int)) ≤ (co : Int) := by omega
              have e1 : (((t : Int) + (s : Int))).toNat = t + s := by omega
              have e2 : (((t : Int) + 2 * (s : Int))).toNat = t + 2 * s := by omega
              have hct : ¬ co = t := by omega
              go_wp2_with fail
              go_region_held3 (fun _ => True) (trivial) (first | (go_at_call 44; refine (merge_true' _ _ _ _ _ _ ((os.drop t).take (t + s - t)) ((os.drop (t + s)).take (t + 2 * s - (t + s))) _ ((HV.out.upd U2.drew).slice2 (by omega) (by omega) (.inl ⟨hct, rfl⟩) rfl) ((HV.out.upd U2.drew).slice2 (by omega) (by omega) (.inl ⟨hcm, rfl⟩) rfl) hAB (by rw [List.length_take, List.length_drop]; omega) (by rw [List.length_take, List.length_drop]; omega)).mono ?_; rintro e w3 ⟨⟨vm, rfl, hom⟩, U3⟩; have HOM := Lib.hid hom; clear hom; have U4 := U2.drew.trans U3; have U5 := ((Upd.refl [] wr).drew).trans U3) | (refine step_append_view ty22 rfl (.tmp 40) (.tmp 50) rfl W1 u7 nx _ vm (by rfl) (by rfl) (HO7.out.kept U5 (by simp)) _ HOM.out (by first | exact U4 | exact U4.drew) hML ?_; intro v6 w6 ho6 U6))
              go_wp2_with fail
              go_roundw
              case rel =>
                have e7 : (j + 1) * (2 * s) = t + 2 * s := by rw [Nat.succ_mul, HAT.out]
                refine ⟨j + 1, _, ?_, ?_, HNX.out, ho6, U6⟩
                · rw [e7]; go_num
                · rw [e7]; omega
              case measure => simp [intOf]; omega
            · by_cases hcm : co = t + s
              · skip
                have hnx : Pass true s os (j + 1) (nx ++ mergeP true ((os.drop t).take (t + s - t)) ((os.drop (t + s)).take (os.length - (t + s)))) := HPS.out.next HP.out (by rw [HAT.out]; exact htl) (by rw [HAT.out]; exact take_alike (.inl (by omega))) (by rw [HAT.out]; exact take_alike (.inr ⟨by rw [List.length_drop]; omega, by rw [List.length_drop]; omega⟩))
                have hML : nx.length + (mergeP true ((os.drop t).take (t + s - t)) ((os.drop (t + s)).take (os.length - (t + s)))).length ≤ 1048576 := by
                  have := hnx.len
                  rw [List.length_append] at this
                  omega
                have hAB : ((os.drop t).take (t + s - t)).length + ((os.drop (t + s)).take (os.length - (t + s))).length ≤ 1048576 := by
                  rw [← mergeP_len true]; omega
                have HNX := Lib.hid hnx
                clear hnx
                have a1 : (t : Int) ≤ ((t : Int) + (s : Int)) := by omega
                have a2 : ((t : Int) + (s : Int)) ≤ (co : Int) := by omega
                have a3 : (0 : Int) ≤ ((t : Int) + (s : Int)) := by omega
                have a4 : ((t : Int) + (s : Int)) ≤ (os.length : Int) := by omega
                have a5 : (os.length : Int) ≤ (co : Int) := by omega
                have e1 : (((t : Int) + (s : Int))).toNat = t + s := by omega
                have e2 : ((os.length : Int)).toNat = os.length := by omega
                have hct : ¬ co = t := by omega
                have HCM := Lib.hid hcm
                have hcmT : (co = t + s) = True := eq_true hcm
                clear hcm
                go_wp2_with fail
                go_region_held3 (fun _ => True) (trivial) (first | (go_at_call 44; refine (merge_true' _ _ _ _ _ _ ((os.drop t).take (t + s - t)) ((os.drop (t + s)).take (os.length - (t + s))) _ ((HV.out.upd U2.drew).slice2 (by omega) (by omega) (.inl ⟨hct, rfl⟩) rfl) ((HV.out.upd U2.drew).slice2 (by omega) (by omega) (.inr ⟨HCM.out, rfl⟩) rfl) hAB (by rw [List.length_take, List.length_drop]; omega) (by rw [List.length_take, List.length_drop]; omega)).mono ?_; rintro e w3 ⟨⟨vm, rfl, hom⟩, U3⟩; have HOM := Lib.hid hom; clear hom; have U4 := U2.drew.trans U3; have U5 := ((Upd.refl [] wr).drew).trans U3) | (refine step_append_view ty22 rfl (.tmp 40) (.tmp 50) rfl W1 u7 nx _ vm (by rfl) (by rfl) (HO7.out.kept U5 (by simp)) _ HOM.out (by first | exact U4 | exact U4.drew) hML ?_; intro v6 w6 ho6 U6))
                go_wp2_with fail
                go_roundw
                case rel =>
                  have e7 : (j + 1) * (2 * s) = t + 2 * s := by rw [Nat.succ_mul, HAT.out]
                  refine ⟨j + 1, _, ?_, ?_, HNX.out, ho6, U6⟩
                  · rw [e7]; go_num
                  · rw [e7]; omega
                case measure => simp [intOf]; omega
              · skip
                have hnx : Pass true s os (j + 1) (nx ++ mergeP true ((os.drop t).take (t + s - t)) ((os.drop (t + s)).take (os.length - (t + s)))) := HPS.out.next HP.out (by rw [HAT.out]; exact htl) (by rw [HAT.out]; exact take_alike (.inl (by omega))) (by rw [HAT.out]; exact take_alike (.inr ⟨by rw [List.length_drop]; omega, by rw [List.length_drop]; omega⟩))
                have hML : nx.length + (mergeP true ((os.drop t).take (t + s - t)) ((os.drop (t + s)).take (os.length - (t + s)))).length ≤ 1048576 := by
                  have := hnx.len
                  rw [List.length_append] at this
                  omega
                have hAB : ((os.drop t).take (t + s - t)).length + ((os.drop (t + s)).take (os.length - (t + s))).length ≤ 1048576 := by
                  rw [← mergeP_len true]; omega
                have HNX := Lib.hid hnx
                clear hnx
                have a1 : (t : Int) ≤ ((t : Int) + (s : Int)) := by omega
                have a2 : ((t : Int) + (s : Int)) ≤ (co : Int) := by omega
                have a3 : (0 : Int) ≤ ((t : Int) + (s : Int)) := by omega
                have a4 : ((t : Int) + (s : Int)) ≤ (os.length : Int) := by omega
                have a5 : (os.length : Int) ≤ (co : Int) := by omega
                have e1 : (((t : Int) + (s : Int))).toNat = t + s := by omega
                have e2 : ((os.length : Int)).toNat = os.length := by omega
                have hct : ¬ co = t := by omega
                go_wp2_with fail
                go_region_held3 (fun _ => True) (trivial) (first | (go_at_call 44; refine (merge_true' _ _ _ _ _ _ ((os.drop t).take (t + s - t)) ((os.drop (t + s)).take (os.length - (t + s))) _ ((HV.out.upd U2.drew).slice2 (by omega) (by omega) (.inl ⟨hct, rfl⟩) rfl) ((HV.out.upd U2.drew).slice2 (by omega) (by omega) (.inl ⟨hcm, rfl⟩) rfl) hAB (by rw [List.length_take, List.length_drop]; omega) (by rw [List.length_take, List.length_drop]; omega)).mono ?_; rintro e w3 ⟨⟨vm, rfl, hom⟩, U3⟩; have HOM := Lib.hid hom; clear hom; have U4 := U2.drew.trans U3; have U5 := ((Upd.refl [] wr).drew).trans U3) | (refine step_append_view ty22 rfl (.tmp 40) (.tmp 50) rfl W1 u7 nx _ vm (by rfl) (by rfl) (HO7.out.kept U5 (by simp)) _ HOM.out (by first | exact U4 | exact U4.drew) hML ?_; intro v6 w6 ho6 U6))
                go_wp2_with fail
                go_roundw
                case rel =>
                  have e7 : (j + 1) * (2 * s) = t + 2 * s := by rw [Nat.succ_mul, HAT.out]
                  refine ⟨j + 1, _, ?_, ?_, HNX.out, ho6, U6⟩
                  · rw [e7]; go_num
                  · rw [e7]; omega
                case measure => simp [intOf]; omega
          · by_cases hcm : co = os.length
            · skip
              have hnx : Pass true s os (j + 1) (nx ++ mergeP true ((os.drop t).take (os.length - t)) ((os.drop (os.length)).take (os.length - (os.length)))) := HPS.out.next HP.out (by rw [HAT.out]; exact htl) (by rw [HAT.out]; exact take_alike (.inr ⟨by rw [List.length_drop]; omega, by rw [List.length_drop]; omega⟩)) (by rw [HAT.out, List.drop_of_length_le (Nat.le_refl _), List.drop_of_length_le (by omega), List.take_nil, List.take_nil])
              have hML : nx.length + (mergeP true ((os.drop t).take (os.length - t)) ((os.drop (os.length)).take (os.length - (os.length)))).length ≤ 1048576 := by
                have := hnx.len
                rw [List.length_append] at this
                omega
              have hAB : ((os.drop t).take (os.length - t)).length + ((os.drop (os.length)).take (os.length - (os.length))).length ≤ 1048576 := by
                rw [← mergeP_len true]; omega
              have HNX := Lib.hid hnx
              clear hnx
              have a1 : (t : Int) ≤ (os.length : Int) := by omega
              have a2 : (os.length : Int) ≤ (co : Int) := by omega
              have a3 : (0 : Int) ≤ (os.length : Int) := by omega
              have a4 : (os.length : Int) ≤ (os.length : Int) := by omega
              have a5 : (os.length : Int) ≤ (co : Int) := by omega
              have e1 : ((os.length : Int)).toNat = os.length := by omega
              have e2 : ((os.length : Int)).toNat = os.length := by omega
              have hct : ¬ co = t := by omega
              have HCM := Lib.hid hcm
              have hcmT : (co = os.length) = True := eq_true hcm
              clear hcm
              go_wp2_with fail
              go_region_held3 (fun _ => True) (trivial) (first | (go_at_call 44; refine (merge_true' _ _ _ _ _ _ ((os.drop t).take (os.length - t)) ((os.drop (os.length)).take (os.length - (os.length))) _ ((HV.out.upd U2.drew).slice2 (by omega) (by omega) (.inl ⟨hct, rfl⟩) rfl) ((HV.out.upd U2.drew).slice2 (by omega) (by omega) (.inr ⟨HCM.out, rfl⟩) rfl) hAB (by rw [List.length_take, List.length_drop]; omega) (by rw [List.length_take, List.length_drop]; omega)).mono ?_; rintro e w3 ⟨⟨vm, rfl, hom⟩, U3⟩; have HOM := Lib.hid hom; clear hom; have U4 := U2.drew.trans U3; have U5 := ((Upd.refl [] wr).drew).trans U3) | (refine step_append_view ty22 rfl (.tmp 40) (.tmp 50) rfl W1 u7 nx _ vm (by rfl) (by rfl) (HO7.out.kept U5 (by simp)) _ HOM.out (by first | exact U4 | exact U4.drew) hML ?_; intro v6 w6 ho6 U6))
              go_wp2_with fail
              go_roundw
              case rel =>
                have e7 : (j + 1) * (2 * s) = t + 2 * s := by rw [Nat.succ_mul, HAT.out]
                refine ⟨j + 1, _, ?_, ?_, HNX.out, ho6, U6⟩
                · rw [e7]; go_num
                · rw [e7]; omega
              case measure => simp [intOf]; omega
            · skip
              have hnx : Pass true s os (j + 1) (nx ++ mergeP true ((os.drop t).take (os.length - t)) ((os.drop (os.length)).take (os.length - (os.length)))) := HPS.out.next HP.out (by rw [HAT.out]; exact htl) (by rw [HAT.out]; exact take_alike (.inr ⟨by rw [List.length_drop]; omega, by rw [List.length_drop]; omega⟩)) (by rw [HAT.out, List.drop_of_length_le (Nat.le_refl _), List.drop_of_length_le (by omega), List.take_nil, List.take_nil])
              have hML : nx.length + (mergeP true ((os.drop t).take (os.length - t)) ((os.drop (os.length)).take (os.length - (os.length)))).length ≤ 1048576 := by
                have := hnx.len
                rw [List.length_append] at this
                omega
              have hAB : ((os.drop t).take (os.length - t)).length + ((os.drop (os.length)).take (os.length - (os.length))).length ≤ 1048576 := by
                rw [← mergeP_len true]; omega
              have HNX := Lib.hid hnx
              clear hnx
              have a1 : (t : Int) ≤ (os.length : Int) := by omega
              have a2 : (os.length : Int) ≤ (co : Int) := by omega
              have a3 : (0 : Int) ≤ (os.length : Int) := by omega
              have a4 : (os.length : Int) ≤ (os.length : Int) := by omega
              have a5 : (os.length : Int) ≤ (co : Int) := by omega
              have e1 : ((os.length : Int)).toNat = os.length := by omega
              have e2 : ((os.length : Int)).toNat = os.length := by omega
              have hct : ¬ co = t := by omega
              go_wp2_with fail
              go_region_held3 (fun _ => True) (trivial) (first | (go_at_call 44; refine (merge_true' _ _ _ _ _ _ ((os.drop t).take (os.length - t)) ((os.drop (os.length)).take (os.length - (os.length))) _ ((HV.out.upd U2.drew).slice2 (by omega) (by omega) (.inl ⟨hct, rfl⟩) rfl) ((HV.out.upd U2.drew).slice2 (by omega) (by omega) (.inl ⟨hcm, rfl⟩) rfl) hAB (by rw [List.length_take, List.length_drop]; omega) (by rw [List.length_take, List.length_drop]; omega)).mono ?_; rintro e w3 ⟨⟨vm, rfl, hom⟩, U3⟩; have HOM := Lib.hid hom; clear hom; have U4 := U2.drew.trans U3; have U5 := ((Upd.refl [] wr).drew).trans U3) | (refine step_append_view ty22 rfl (.tmp 40) (.tmp 50) rfl W1 u7 nx _ vm (by rfl) (by rfl) (HO7.out.kept U5 (by simp)) _ HOM.out (by first | exact U4 | exact U4.drew) hML ?_; intro v6 w6 ho6 U6))
              go_wp2_with fail
              go_roundw
              case rel =>
                have e7 : (j + 1) * (2 * s) = t + 2 * s := by rw [Nat.succ_mul, HAT.out]
                refine ⟨j + 1, _, ?_, ?_, HNX.out, ho6, U6⟩
                · rw [e7]; go_num
                · rw [e7]; omega
              case measure => simp [intOf]; omega
        · have hpd := HPS.out.done (by rw [HAT.out]; omega)
          have HPD := Lib.hid hpd
          clear hpd
          go_wp2_with fail
          go_roundw
          case rel =>
            refine ⟨2 * s, nx, by omega, by omega, by go_num, HPD.out.2.2.trans HL.out, HPD.out.2.1.trans HA.out, HPD.out.1, HO7.out.mono U1.size, U1.trans U2⟩
          case measure => have := HL.out; simp [intOf]; omega
    · go_wp2_with fail
      go_ret
      exact ⟨⟨_, os, rfl, HO.out, pieces_whole HP.out (by omega), HA.out⟩, U1⟩

end Go.Proofs.Ytpoogkgekeocbaa
