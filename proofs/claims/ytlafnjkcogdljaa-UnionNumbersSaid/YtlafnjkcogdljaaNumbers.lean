/- UnionNumbers: the walk. -/
import Derived.Test.YtlafnjkcogdljaaN
namespace Go.Proofs.Ytlafnjkcogdljaa
open Go.RowKit

set_option maxRecDepth 100000 in
theorem nguard_walk (n : Int) (p : Option Addr) (len cap : Nat) (a : Int) (w : World) (hg : n < 0 ∨ 60 < n ∨ (0 ≤ n ∧ n ≤ 60 ∧ 80 < len)) :
    Calls Try.prog 5 #[.int .i64 n, .slice p len cap, .int .i64 a] w fun e w' => e = .returned (.bool true) ∧ Upd [] w w' := by
  rcases hg with h | h | ⟨h0, h1, h2⟩
  · go_enter Try.func5, Try.ntmps5
    go_wp2_with (go_at_call 7; refine (awake_any _).mono ?_; rintro e w' ⟨rfl, hu⟩)
    go_ret
    exact ⟨rfl, hu⟩
  · have h0 : ¬ n < 0 := by omega
    go_enter Try.func5, Try.ntmps5
    go_wp2_with (go_at_call 7; refine (awake_any _).mono ?_; rintro e w' ⟨rfl, hu⟩)
    go_ret
    exact ⟨rfl, hu⟩
  · go_enter Try.func5, Try.ntmps5
    go_wp2_with (go_at_call 7; refine (awake_any _).mono ?_; rintro e w' ⟨rfl, hu⟩)
    go_ret
    exact ⟨rfl, hu⟩

theorem Own.lt {w : World} {B g n cap : Nat} {x : List Nat} (h : Own w B (.slice (some ⟨g, 0, none⟩) n cap) x) : B ≤ g ∧ g < w.heap.size := World.ownsRow.lt h g rfl

theorem count_le_take (x : List Nat) (k v : Nat) : (x.take k).count v ≤ k := Nat.le_trans List.count_le_length (List.length_take_le _ _)

theorem count_next {x : List Nat} {k u : Nat} (h : x[k]? = some u) (v : Nat) : (x.take (k + 1)).count v = (x.take k).count v + if u = v then 1 else 0 := by
  rw [take_next h, List.count_append, List.count_singleton]
  by_cases e : u = v
  · simp [e]
  · simp [e]

set_option maxRecDepth 100000 in
set_option maxHeartbeats 2000000 in
theorem numbers_walk (n : Nat) (p : Option Addr) (len cap : Nat) (a : Int) (ps : List (Int × Int)) (w : World) (hn : n ≤ 60) (hlen : len ≤ 80) (hps : ps.length = len) (hl : Pairs w p ps) :
    Calls Try.prog 5 #[.int .i64 n, .slice p len cap, .int .i64 a] w fun e w' => e = .returned (.bool true) ∧ Upd [] w w' := by
  have HPS := Lib.hid hps
  have HL := Lib.hid hl
  clear hps hl
  go_enter Try.func5, Try.ntmps5
  go_wp2_with fail
  refine (made_any n p len cap ps w hn hlen HPS.out HL.out).mono ?_
  rintro e w1 ⟨s, b, B, v, x, rfl, M⟩
  obtain ⟨xp, xcap, rfl, _⟩ := M.own.read
  have hxl := M.sets.len
  have hx60 : x.length ≤ 60 := by omega
  have HXL := Lib.hid hxl
  clear hxl
  go_wp2_with fail
  refine (numbers_any s b n x w1 M.sets (by omega)).mono ?_
  rintro e w2 ⟨⟨v9, rfl, ho9⟩, h2, U2⟩
  obtain ⟨gp, gcap, rfl, _⟩ := ho9.read
  have ho2 := M.own.kept U2 (by have := M.sB; have := M.bB; simp; omega)
  go_wp2_with fail
  refine (rnumbers_any B _ x w2 ho2 (by omega) h2.le).mono ?_
  rintro e w3 ⟨⟨v10, rfl, ho10⟩, U3⟩
  obtain ⟨wp, wcap, rfl, _⟩ := ho10.read
  have h3 := h2.upd U3 (by simp) (by simp)
  have ho3 := ho2.kept U3 (by simp)
  have ho9' := ho9.kept U3 (by simp)
  have hnl : (numbersX x).length = x.length := numbersX_len x
  rw [hnl]
  have HNL := Lib.hid hnl
  have U4 : Upd [] w w3 := (M.upd.mono (S' := [s, b]) (by simp)).trans (U2.trans (U3.mono (by simp))) |>.shrink (by have := M.s0; have := M.b0; simp; omega)
  have hs0 := M.s0
  have hb0 := M.b0
  have hsB := M.sB
  have hbB := M.bB
  clear hnl h2 ho2 ho9 U2 U3 M
  go_wp2_with fail
  go_loopw [48] (fun i wr => ∃ k : Nat, k ≤ x.length ∧ i = .int .i64 k ∧ ∃ m, wr = w3.drewN m) (fun i _ => x.length - (intOf i).toNat)
  case atStart => exact ⟨0, Nat.zero_le _, rfl, 0, rfl⟩
  case round =>
    obtain ⟨k, hk, rfl, m, rfl⟩ := hrel
    by_cases hkl : k < x.length
    · obtain ⟨u, hxu⟩ : ∃ u, x[k]? = some u := ⟨x[k], List.getElem?_eq_getElem hkl⟩
      obtain ⟨g1, rfl, _, hg1, hc1⟩ := Own.at' ho9' (numbersX_at hxu)
      obtain ⟨g2, rfl, _, hg2, hc2⟩ := Own.at' ho10 (numbersX_at hxu)
      have c1 := hc1 k _ (numbersX_at hxu)
      have c2 := hc2 k _ (numbersX_at hxu)
      clear hc1 hc2 hxu
      go_wp2_with fail
      go_quiet (fail)
      go_wp2_with fail
      go_roundw
      case rel => exact ⟨k + 1, by omega, by go_num, _, rfl⟩
      case measure => simp [intOf]; omega
    · clear ho9' ho10
      have ud : Upd [] w3 (w3.drewN m) := ⟨rfl, rfl, rfl, Nat.le_refl _, fun _ _ _ => rfl⟩
      have h4 := h3.upd ud (by simp) (by simp)
      have ho4 := ho3.kept ud (by simp)
      have U5 := U4.trans ud
      clear h3 ho3 U4 ud
      generalize w3.drewN m = w4 at h4 ho4 U5 ⊢
      as_aux_lemma =>
        by_cases hia : inB n a = true
        · obtain ⟨ka, rfl, hka⟩ := inB_out hia
          have hkx : ka < x.length := by have := HXL.out; omega
          obtain ⟨xa, hxa⟩ : ∃ u, x[ka]? = some u := ⟨x[ka], List.getElem?_eq_getElem hkx⟩
          obtain ⟨g, rfl, _, hg, hc⟩ := Own.at' ho4 hxa
          have cxa := hc ka xa hxa
          have HXA := Lib.hid hxa
          have HC := Lib.hid hc
          clear hxa hc
          go_wp2_with (go_at_call 11; refine (within_in _ _ _).mono ?_; rintro e w' ⟨rfl, rfl⟩)
          go_loop [12, 66] (fun c i => ∃ j : Nat, j ≤ x.length ∧ i = .int .i64 j ∧ c = .int .i64 ((x.take j).count xa : Nat)) (fun _ i => x.length - (intOf i).toNat)
          case atStart => exact ⟨0, Nat.zero_le _, rfl, rfl⟩
          case round =>
            obtain ⟨j, hj, rfl, rfl⟩ := hrel
            have hcl := count_le_take x j xa
            by_cases hjl : j < x.length
            · obtain ⟨u, hxu⟩ : ∃ u, x[j]? = some u := ⟨x[j], List.getElem?_eq_getElem hjl⟩
              have cu := HC.out j u hxu
              have HS := Lib.hid (count_next hxu xa)
              clear hxu
              by_cases hue : u = xa
              · have htest : ((u : Int) == (xa : Int)) = true := by simp [hue]
                have HU := Lib.hid hue
                clear hue
                go_wp2
                go_round
                case rel => exact ⟨j + 1, by omega, by go_num, by rw [HS.out, if_pos HU.out]; go_num⟩
                case measure => simp [intOf]; omega
              · have htest : ((u : Int) == (xa : Int)) = false := by simp; omega
                have HU := Lib.hid hue
                clear hue
                go_wp2
                go_round
                case rel => exact ⟨j + 1, by omega, by go_num, by rw [HS.out, if_neg HU.out]; go_num⟩
                case measure => simp [intOf]; omega
            · have ej : x.take j = x := List.take_of_length_le (by omega)
              rw [ej]
              clear ej hcl
              go_wp2_with fail
              refine (least_in s b n x ka w4 h4 hia).mono ?_
              rintro e w5 ⟨rfl, h5, U6⟩
              have ex : ((x[((ka : Int)).toNat]?.getD 0 : Nat) : Int) = (xa : Int) := by rw [Int.toNat_natCast, HXA.out]; rfl
              rw [ex]
              clear ex
              go_wp2_with (go_at_call 11; refine (within_in _ _ _).mono ?_; rintro e w' ⟨rfl, rfl⟩)
              refine (size_in s b n x ka w5 h5 hia).mono ?_
              rintro e w6 ⟨rfl, h6, U7⟩
              have ex : ((x.count (x[((ka : Int)).toNat]?.getD 0) : Nat) : Int) = (x.count xa : Int) := by rw [Int.toNat_natCast, HXA.out]; rfl
              rw [ex]
              clear ex
              have U8 := (U5.mono (S' := [s, b]) (by simp)).trans (U6.trans U7)
              have hgn : g ∉ [s, b] := by have := ho4.lt; simp; omega
              have cxa' := ((U6.trans U7).cell (p := ⟨g, ka, none⟩) hg hgn).trans cxa
              clear cxa h4 h5 ho4 U5 U6 U7
              go_wp2_with fail
              refine (awake_any _).mono ?_
              rintro e w9 ⟨rfl, U9⟩
              go_wp2_with fail
              go_ret
              exact ⟨rfl, (U8.trans (U9.mono (by simp))).shrink (by simp; omega)⟩
        · have hia' : inB n a = false := by cases e : inB n a <;> simp_all
          clear hia
          have cl := h4.cl
          go_wp2_with (first | (go_at_call 11; refine (within_in _ _ _).mono ?_; rintro e w' ⟨rfl, rfl⟩) | (go_at_call 16; refine (least_no s n _ a _ cl hia').mono ?_; rintro e w' ⟨rfl, rfl⟩) | (go_at_call 21; refine (size_no s n _ a _ cl hia').mono ?_; rintro e w' ⟨rfl, rfl⟩) | (go_at_call 7; refine (awake_any _).mono ?_; rintro e w9 ⟨rfl, U9⟩))
          go_ret
          exact ⟨rfl, U5.trans U9⟩

end Go.Proofs.Ytlafnjkcogdljaa
