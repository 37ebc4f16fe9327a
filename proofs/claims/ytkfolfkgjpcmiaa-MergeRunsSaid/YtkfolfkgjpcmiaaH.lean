/- Less. -/
import Derived.Test.YtkfolfkgjpcmiaaHMath
import Derived.Test.YtkfolfkgjpcmiaaG
namespace Go.Proofs.Ytkfolfkgjpcmiaa
open Go.RowKit

set_option maxHeartbeats 2000000 in
theorem less_any (p q : Option Addr) (c d : Nat) (xs ys : List Int) (w : World) (hx : View w p c xs) (hy : View w q d ys) (hn : xs.length ≤ 1048576) (hm : ys.length ≤ 1048576) (hs : Sorted key xs) (hg : Sorted key ys) :
    Calls Try.prog 21 #[.slice p xs.length c, .slice q ys.length d, .func (.func 11) #[] #[]] w fun e w' => (∃ v, e = .returned v ∧ Own w' w.heap.size v (lessOf ys xs)) ∧ Upd [] w w' := by
  have HX := Lib.hid hx
  have HY := Lib.hid hy
  have HS := Lib.hid hs
  have HG := Lib.hid hg
  clear hx hy hs hg
  go_enter Try.func21, Try.ntmps21
  go_wp2_with fail
  go_loopw [7, 8, 13] (fun u7 u8 u13 wr => ∃ j k : Nat, j ≤ xs.length ∧ k ≤ ys.length ∧ u8 = .int .i64 k ∧ u13 = .int .i64 j ∧ Skipped ys xs j k ∧ Own wr w.heap.size u7 (lessOf ys (xs.take j)) ∧ Upd [] w wr) (fun _ _ u13 _ => xs.length - (intOf u13).toNat)
  case atStart => exact ⟨0, 0, Nat.zero_le _, Nat.zero_le _, rfl, rfl, Skipped.zero _ _ _, Own.nil _ _, Upd.refl _ _⟩
  case round =>
    obtain ⟨j, k, hj, hk, rfl, rfl, hsk, hown, U0⟩ := hrel
    have HK := Lib.hid hsk
    have HO := Lib.hid hown
    clear hsk hown
    by_cases hjl : j < xs.length
    · obtain ⟨a, ha⟩ : ∃ a, xs[j]? = some a := ⟨xs[j], List.getElem?_eq_getElem hjl⟩
      obtain ⟨bx, ox, rfl, _, hcx⟩ := (HX.out.upd U0).cells j a ha
      have ca := hcx j a ha
      have HA := Lib.hid ha
      clear hcx ha
      obtain ⟨W1, hW1⟩ : ∃ W, W = wr := ⟨_, rfl⟩
      subst hW1
      go_wp2_with fail
      go_loopw [8] (fun u8 wq => ∃ k : Nat, k ≤ ys.length ∧ u8 = .int .i64 k ∧ Skipped ys xs j k ∧ wq = W1) (fun u8 _ => ys.length - (intOf u8).toNat)
      case atStart => exact ⟨k, hk, rfl, HK.out, rfl⟩
      case round =>
        clear hk HK
        obtain ⟨k, hk, rfl, hsk, rfl⟩ := hrel
        have HK := Lib.hid hsk
        clear hsk
        have hol := lessOf_len ys xs j hj
        by_cases hkl : k < ys.length
        · obtain ⟨g, hgk⟩ : ∃ g, ys[k]? = some g := ⟨ys[k], List.getElem?_eq_getElem hkl⟩
          obtain ⟨bg, og, rfl, _, hcg⟩ := (HY.out.upd U0).cells k g hgk
          have cg := hcg k g hgk
          have HGK := Lib.hid hgk
          clear hcg hgk
          have hne : ((k : Int) == (ys.length : Int)) = false := by simp only [beq_eq_false_iff_ne, ne_eq]; omega
          rcases Int.lt_trichotomy (key g) (key a) with hlt | heq | hgt
          · have ht : decide (ord g a < 0) = true := decide_eq_true (ord_lt.2 hlt)
            have HLT := Lib.hid hlt
            clear hlt
            go_wp2_with (go_at_call 11; refine (ord_any _ _ _).mono ?_; rintro e w' ⟨rfl, rfl⟩)
            go_roundw
            case rel => exact ⟨k + 1, hkl, by go_num, HK.out.next HS.out HGK.out HA.out HLT.out, trivial⟩
            case measure => simp [intOf]; omega
          · have ht : decide (ord g a < 0) = false := decide_eq_false (fun e => by have := ord_lt.1 e; omega)
            have ht2 : (ord g a == 0) = true := by rw [beq_iff_eq]; exact ord_eq.2 heq
            have hbad := bad_of_eq HGK.out heq
            have HBAD := Lib.hid hbad
            clear heq hbad
            go_wp2_with (go_at_call 11; refine (ord_any _ _ _).mono ?_; rintro e w' ⟨rfl, rfl⟩)
            go_roundw
            case rel =>
              refine ⟨j + 1, k, hjl, hk, rfl, by go_num, HK.out.later (by omega), ?_, U0⟩
              rw [lessOf_succ HA.out, HBAD.out]
              simpa using HO.out
            case measure => simp [intOf]; omega
          · have ht : decide (ord g a < 0) = false := decide_eq_false (fun e => by have := ord_lt.1 e; omega)
            have ht2 : (ord g a == 0) = false := by rw [beq_eq_false_iff_ne]; intro e; have := ord_eq.1 e; omega
            have hok := ok_of_gt HK.out HG.out HGK.out HA.out hgt
            have HOK := Lib.hid hok
            clear hgt hok
            go_wp2_with (first | (go_at_call 11; refine (ord_any _ _ _).mono ?_; rintro e w' ⟨rfl, rfl⟩) | (at_builtin; refine wpList_append_int (u := a) rfl _ _ rfl w u7 _ _ 1 (by rfl) (by rfl) (cell_new _ _ _) (HO.out.kept ((Upd.refl [] _).alloc _) (by simp)) (U0.alloc _) (by simp <;> omega) ?_))
            intro v2 w2 ho2 U2
            go_wp2_with fail
            go_roundw
            case rel =>
              refine ⟨j + 1, k, hjl, hk, rfl, by go_num, HK.out.later (by omega), ?_, U2⟩
              rw [lessOf_succ HA.out, HOK.out, if_pos rfl]
              exact ho2
            case measure => simp [intOf]; omega
        · have hke : k = ys.length := by omega
          subst hke
          have hok := ok_of_end HK.out HA.out
          have HOK := Lib.hid hok
          clear hok
          go_wp2_with (at_builtin; refine wpList_append_int (u := a) rfl _ _ rfl w u7 _ _ 1 (by rfl) (by rfl) (cell_new _ _ _) (HO.out.kept ((Upd.refl [] _).alloc _) (by simp)) (U0.alloc _) (by simp <;> omega) ?_)
          intro v2 w2 ho2 U2
          go_wp2_with fail
          go_roundw
          case rel =>
            refine ⟨j + 1, ys.length, hjl, Nat.le_refl _, rfl, by go_num, HK.out.later (by omega), ?_, U2⟩
            rw [lessOf_succ HA.out, HOK.out, if_pos rfl]
            exact ho2
          case measure => simp [intOf]; omega
    · have hje : j = xs.length := by omega
      subst hje
      go_wp2_with fail
      go_ret
      refine ⟨⟨_, rfl, ?_⟩, U0⟩
      have := HO.out
      rwa [List.take_length] at this

end Go.Proofs.Ytkfolfkgjpcmiaa
