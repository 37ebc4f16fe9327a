/- Numbers, of the sets and of the document's list. -/
import Derived.Test.YtlafnjkcogdljaaG
namespace Go.Proofs.Ytlafnjkcogdljaa
open Go.RowKit

def numbersX (x : List Nat) : List Nat := x.map fun v => cntTo x v
theorem numbersX_len (x : List Nat) : (numbersX x).length = x.length := by simp [numbersX]
theorem numbersX_at {x : List Nat} {i v : Nat} (h : x[i]? = some v) : (numbersX x)[i]? = some (cntTo x v) := by simp [numbersX, h]

/-- the first k of the numbers are told -/
structure Outs (x : List Nat) (n k : Nat) (outs : List Value) : Prop where
  len : outs.length = n
  at_ : ∀ (i v : Nat), i < k → x[i]? = some v → outs[i]? = some (.int .i64 (cntTo x v : Nat))

theorem Outs.step {x : List Nat} {n k v u : Nat} {outs : List Value} (h : Outs x n k outs) (hk : k < n) (hx : x[k]? = some v) (hu : u = cntTo x v) : Outs x n (k + 1) (outs.set k (.int .i64 (u : Nat))) := by
  refine ⟨by simp [h.len], fun i v' hi hv => ?_⟩
  by_cases e : i = k
  · subst e
    rw [hx] at hv
    obtain rfl := Option.some.inj hv
    rw [List.getElem?_set_self (by rw [h.len]; exact hk), hu]
  · rw [List.getElem?_set_ne (fun e' => e e'.symm)]
    exact h.at_ i v' (by omega) hv

theorem Outs.own {x : List Nat} {n : Nat} {outs : List Value} (h : Outs x n n outs) (hl : x.length = n) (hn : n ≤ 1048576) {w : World} {g B : Nat} (hr : IsRow w g 3 outs) (hB : B ≤ g) :
    Own w B (.slice (some ⟨g, 0, none⟩) n n) (numbersX x) := by
  have e : outs = nums (numbersX x) := by
    apply List.ext_getElem?
    intro i
    by_cases hi : i < n
    · have hxi : x[i]? = some (x[i]'(by omega)) := List.getElem?_eq_getElem _
      rw [h.at_ i _ hi hxi, nums_at (numbersX_at hxi)]
    · rw [List.getElem?_eq_none (by rw [h.len]; omega), List.getElem?_eq_none (by rw [nums_len, numbersX_len]; omega)]
  have hln : (numbersX x).length = n := by rw [numbersX_len]; exact hl
  refine ⟨by rw [nums_len]; omega, .inr ⟨g, n, outs.toArray, by rw [hln], hB, hr, by omega, by unfold maxLen; omega, by simp [h.len], ?_⟩⟩
  rw [hln, Nat.mul_one, ← e]
  exact List.take_of_length_le (by simp [h.len])

theorem make_ints (n : Nat) (hn : n ≤ 1048576) (w : World) : ∃ c : List Value, c.length = n ∧
    (Instr.makeSlice 26 (.int .i64 n) (.int .i64 n)).run Try.prog w = .ok (.slice (some ⟨w.heap.size, 0, none⟩) n n) (w.alloc (.cells c.toArray 3 (0, 0))) := by
  obtain ⟨i0, hi, hz0, hz1, hz2⟩ := info_parts Try.info3
  refine ⟨(madeCells (Value.int .i64 0).cells n).toList, by simp [size_madeCells], ?_⟩
  have h := run_make (P := Try.prog) w 26 3 i0 _ Try.underlying26 hi hz0 .i64 .i64 n n (by omega) (by omega) (by rw [hz2]; omega) (by omega)
  rw [h, hz1]
  simp

theorem Good.next {n up sz ls R x} (h : Good n up sz ls R x) {k v : Nat} (hv : x[k]? = some v) :
    (v < k ∧ cntTo x (k + 1) = cntTo x k ∧ x[v]? = some v) ∨ (v = k ∧ cntTo x (k + 1) = cntTo x k + 1) := by
  have hle := h.le k v hv
  have hk : k < n := by rw [← h.len]; exact (List.getElem?_eq_some_iff.1 hv).1
  by_cases e : v = k
  · right
    subst e
    exact ⟨rfl, by simp only [cntTo]; rw [if_pos hv]⟩
  · left
    refine ⟨by omega, ?_, ?_⟩
    · simp only [cntTo]; rw [hv, if_neg (by simpa using e)]; rfl
    · have := (h.least k hk).2
      have hv' := h.val k hk
      rw [hv] at hv'
      rw [Option.some.inj hv']
      exact this

theorem SetsAt.next {w s b n x} (h : SetsAt w s b n x) {k v : Nat} (hv : x[k]? = some v) :
    (v < k ∧ cntTo x (k + 1) = cntTo x k ∧ x[v]? = some v) ∨ (v = k ∧ cntTo x (k + 1) = cntTo x k + 1) := by
  obtain ⟨_, _, _, _, _, _, g⟩ := h; exact g.next hv

set_option maxHeartbeats 1000000 in
theorem numbers_any (s b n : Nat) (x : List Nat) (w : World) (h : SetsAt w s b n x) (hn : n ≤ 1048576) :
    Calls Try.prog 19 #[.pointer (some ⟨s, 0, none⟩)] w fun e w' => (∃ v, e = .returned v ∧ Own w' w.heap.size v (numbersX x)) ∧ SetsAt w' s b n x ∧ Upd [s, b] w w' := by
  obtain ⟨c, hc, hmk⟩ := make_ints n hn w
  have cl := h.cl
  have hsb := h.lt
  have hxl := h.len
  have HXL := Lib.hid hxl
  clear hxl
  go_enter Try.func19, Try.ntmps19
  go_wp2_with fail
  have U0 : Upd [] w (w.alloc (.cells c.toArray 3 (0, 0))) := (Upd.refl [] w).alloc _
  have hr0 := IsRow.new w c 3
  have h0 := h.upd U0 (by simp) (by simp)
  obtain ⟨g, hg⟩ : ∃ g, g = w.heap.size := ⟨_, rfl⟩
  rw [← hg] at hsb hr0 ⊢
  have hgs : g ∉ [s, b] := by simp; omega
  have HG := Lib.hid hg
  have HGS := Lib.hid hgs
  have HC := Lib.hid hc
  clear hmk cl h hg hgs hc
  have hu0 : Outs x n 0 c := ⟨HC.out, fun i v hi => absurd hi (Nat.not_lt_zero i)⟩
  have U1 : Upd [s, b] w (w.alloc (.cells c.toArray 3 (0, 0))) := U0.mono (by simp)
  clear U0
  generalize w.alloc (.cells c.toArray 3 (0, 0)) = w1 at hr0 h0 U1 ⊢
  go_loopw [4, 16] (fun nx i wr => ∃ k : Nat, k ≤ n ∧ i = .int .i64 k ∧ nx = .int .i64 (cntTo x k) ∧ ∃ outs, IsRow wr g 3 outs ∧ Outs x n k outs ∧ SetsAt wr s b n x ∧ Upd [s, b] w wr) (fun _ i _ => n - (intOf i).toNat)
  case atStart => exact ⟨0, Nat.zero_le _, rfl, rfl, c, hr0, hu0, h0, U1⟩
  case round =>
    obtain ⟨k, hk, rfl, rfl, outs, hr, ho, h1, U2⟩ := hrel
    clear hr0 hu0 h0 U1
    have hle := cntTo_le x k
    by_cases hkn : k < n
    · obtain ⟨v, hv⟩ : ∃ u, x[k]? = some u := ⟨x[k]'(by have := HXL.out; omega), List.getElem?_eq_getElem _⟩
      have ik : inB n (k : Int) = true := inB_nat _ _ hkn
      have hnx := h1.next hv
      have HV := Lib.hid hv
      have HNX := Lib.hid hnx
      clear hv hnx
      go_wp2_with fail
      refine (least_in s b n x k _ h1 ik).mono ?_
      rintro e w2 ⟨rfl, h2, U3⟩
      have ex : ((x[((k : Int)).toNat]?.getD 0 : Nat) : Int) = (v : Int) := by rw [Int.toNat_natCast, HV.out]; rfl
      rw [ex]
      clear ex
      have hr2 := hr.upd U3 HGS.out
      have U4 := U2.trans U3
      clear hr h1 U2 U3
      have ck : ∃ u, w2.cell? ⟨g, k, none⟩ = some u := hr2.has (by rw [ho.len]; exact hkn)
      obtain ⟨u0, ck⟩ := ck
      have fk := hr2.free k
      rcases HNX.out with ⟨hlt, hcn, hvv⟩ | ⟨hvk, hcn⟩
      · have hcv := (hr2.cell v).trans (ho.at_ v v hlt hvv)
        have HCN := Lib.hid hcn
        have HVV := Lib.hid hvv
        clear hcn hvv HNX
        have hvn : v < n := by omega
        go_wp2
        go_roundw
        case rel =>
          refine ⟨k + 1, by omega, by go_num, by rw [HCN.out], _, hr2.setCell_same _ _, ho.step hkn HV.out rfl, ?_, U4.setCell_new (p := ⟨g, k, none⟩) (by have := HG.out; simp; omega) _⟩
          exact h2.upd ((Upd.refl [g] w2).setCell (p := ⟨g, k, none⟩) (by simp) _) (by have := HGS.out; simp at this ⊢; omega) (by have := HGS.out; simp at this ⊢; omega)
        case measure => simp [intOf]; omega
      · have HVK := Lib.hid hvk
        have HCN := Lib.hid hcn
        have hnl : ¬ v < k := by omega
        have hkv : cntTo x k = cntTo x v := by rw [hvk]
        have HKV := Lib.hid hkv
        clear hvk hcn HNX hkv
        go_wp2
        go_roundw
        case rel =>
          refine ⟨k + 1, by omega, by go_num, by rw [HCN.out]; go_num, _, hr2.setCell_same _ _, ho.step hkn HV.out HKV.out, ?_, U4.setCell_new (p := ⟨g, k, none⟩) (by have := HG.out; simp; omega) _⟩
          exact h2.upd ((Upd.refl [g] w2).setCell (p := ⟨g, k, none⟩) (by simp) _) (by have := HGS.out; simp at this ⊢; omega) (by have := HGS.out; simp at this ⊢; omega)
        case measure => simp [intOf]; omega
    · have hke : n = k := by omega
      subst hke
      go_wp2
      go_ret
      exact ⟨⟨_, rfl, by have e := HG.out; rw [← e]; exact ho.own HXL.out hn hr (Nat.le_refl _)⟩, h1, U2⟩


theorem SetsAt.le {w s b n x} (h : SetsAt w s b n x) : ∀ (i v : Nat), x[i]? = some v → v ≤ i := by
  obtain ⟨_, _, _, _, _, _, g⟩ := h; exact g.le

set_option maxHeartbeats 1000000 in
theorem rnumbers_any (B : Nat) (v : Value) (x : List Nat) (w : World) (h : Own w B v x) (hn : x.length ≤ 1048576) (hx : ∀ (i v : Nat), x[i]? = some v → v ≤ i) :
    Calls Try.prog 20 #[v] w fun e w' => (∃ v', e = .returned v' ∧ Own w' w.heap.size v' (numbersX x)) ∧ Upd [] w w' := by
  obtain ⟨i0, hi, hz0, hz1, hz2⟩ := info_parts Try.info3
  obtain ⟨p, cap, rfl, hread⟩ := h.read
  obtain ⟨n, hnx⟩ : ∃ n, n = x.length := ⟨_, rfl⟩
  rw [← hnx] at hn ⊢
  have HN := Lib.hid hnx
  have HR := Lib.hid hread
  have HX := Lib.hid hx
  clear hnx hread h hx
  go_enter Try.func20, Try.ntmps20
  go_wp2_with fail
  go_loopw [3, 4] (fun v i wr => ∃ k : Nat, k ≤ n ∧ i = .int .i64 k ∧ Own wr w.heap.size v ((numbersX x).take k) ∧ Upd [] w wr) (fun _ i _ => n - (intOf i).toNat)
  case atStart => exact ⟨0, Nat.zero_le _, rfl, Own.nil _ _, Upd.refl _ _⟩
  case round =>
    obtain ⟨k, hk, rfl, hown, hu⟩ := hrel
    have hsz := hu.size
    by_cases hkn : k < n
    · obtain ⟨u, hxu⟩ : ∃ u, x[k]? = some u := ⟨x[k]'(by have := HN.out; omega), List.getElem?_eq_getElem _⟩
      obtain ⟨g, rfl, hBg, hgw, hcells⟩ := HR.out k u hxu
      have hcu := (hu.cell (p := ⟨g, k, none⟩) hgw (by simp)).trans (hcells k u hxu)
      have huk := HX.out k u hxu
      have hl : ((numbersX x).take k).length = k := by rw [List.length_take, numbersX_len]; have := HN.out; omega
      have hown1 := own_at hown hl
      have HK : Hid ((numbersX x).take (k + 1) = (numbersX x).take k ++ [cntTo x u]) := by exact take_next (numbersX_at hxu)
      have HL := Lib.hid hl
      have HC := Lib.hid hcells
      clear hl hcells hxu
      go_wp2_with fail
      go_loop [5, 6] (fun c j => ∃ m : Nat, m ≤ u ∧ j = .int .i64 m ∧ c = .int .i64 (cntTo x m)) (fun _ j => u - (intOf j).toNat)
      case atStart => exact ⟨0, Nat.zero_le _, rfl, rfl⟩
      case round =>
        obtain ⟨m, hm, rfl, rfl⟩ := hrel
        have hle := cntTo_le x m
        by_cases hmu : m < u
        · obtain ⟨t, hxt⟩ : ∃ t, x[m]? = some t := ⟨x[m]'(by have := HN.out; omega), List.getElem?_eq_getElem _⟩
          have hct := (hu.cell (p := ⟨g, m, none⟩) hgw (by simp)).trans (HC.out m t hxt)
          have HS : Hid (cntTo x (m + 1) = cntTo x m + if t = m then 1 else 0) := by
            show cntTo x (m + 1) = _
            simp only [cntTo, hxt, Option.some.injEq]
          have hmn : m < n := by omega
          clear hxt
          by_cases htm : t = m
          · have htest : ((t : Int) == (m : Int)) = true := by simp [htm]
            have HU := Lib.hid htm
            clear htm
            go_wp2
            go_round
            case rel => exact ⟨m + 1, by omega, by go_num, by rw [HS.out, if_pos HU.out]; go_num⟩
            case measure => simp [intOf]; omega
          · have htest : ((t : Int) == (m : Int)) = false := by simp; omega
            have HU := Lib.hid htm
            clear htm
            go_wp2
            go_round
            case rel => exact ⟨m + 1, by omega, by go_num, by rw [HS.out, if_neg HU.out]; go_num⟩
            case measure => simp [intOf]; omega
        · have hmu' : u = m := by omega
          subst hmu'
          go_wp2_with (at_builtin; refine wpList_append_own _ rfl _ _ 26 rfl w.heap.size 3 i0 (.int .i64 0) 1 8 Try.underlying26 hi hz0 hz1 hz2 rfl (by decide) _ _ _ rfl (hown1.alloc _) ⟨wr.heap.size, 0, none⟩ 1 1 [.int .i64 (cntTo x u : Nat)] rfl rfl (one_at _ _ _) (by simp [Value.oneCell']) (by unfold maxLen; omega) (by omega) ?c5 ?_)
          case c5 => first | omega | (simp; omega)
          intro v' w1 hown' hgrow _
          obtain ⟨hn1, hu1⟩ := own_after hown HL.out hown' hgrow hu (Nat.le_refl _)
          rw [← HK.out] at hn1
          clear hown' hgrow hown hown1 hu
          go_wp2
          go_roundw
          case rel => exact ⟨k + 1, by omega, by go_num, hn1, hu1⟩
          case measure => simp [intOf]; omega
    · have hkn' : n = k := by omega
      have e : (numbersX x).take k = numbersX x := List.take_of_length_le (by rw [numbersX_len]; have := HN.out; omega)
      rw [e] at hown
      clear e
      subst hkn'
      go_wp2
      go_ret
      exact ⟨⟨_, rfl, hown⟩, hu⟩

end Go.Proofs.Ytlafnjkcogdljaa
