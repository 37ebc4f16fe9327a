/- HeapPlays: the walk. -/
import Derived.Test.YtgeaboahccfdcaaG
namespace Go.Proofs.Ytgeaboahccfdcaa
open Go.RowKit

/-- A list of pairs of numbers is read at that place. -/
def Pairs (w : World) (p : Option Addr) (ps : List (Int × Int)) : Prop :=
  ∀ (i : Nat) (A C : Int), ps[i]? = some (A, C) → ∃ b off, p = some ⟨b, off, none⟩ ∧ b < w.heap.size ∧
    ∀ (j : Nat) (A C : Int), ps[j]? = some (A, C) → w.cell? ⟨b, off + j * 2, none⟩ = some (.int .i64 A) ∧ w.cell? ⟨b, off + j * 2 + 1, none⟩ = some (.int .i64 C)

theorem Pairs.upd {w w' : World} {p : Option Addr} {ps : List (Int × Int)} (h : Pairs w p ps) (u : Upd [] w w') : Pairs w' p ps := by
  intro i A C hi
  obtain ⟨b, off, h1, h2, h3⟩ := h i A C hi
  exact ⟨b, off, h1, Nat.lt_of_lt_of_le h2 u.size, fun j A C hj => ⟨(u.cell (p := ⟨b, off + j * 2, none⟩) h2 (by simp)).trans (h3 j A C hj).1, (u.cell (p := ⟨b, off + j * 2 + 1, none⟩) h2 (by simp)).trans (h3 j A C hj).2⟩⟩

theorem step_any (h : Nat) (v : Value) (ys : List Int) (lv : Value) (xs : List Int) (k n : Int) (w : World) (P : Pair w h v ys lv xs) (hl : xs.length ≤ 100000) :
    Calls Try.prog 12 #[.pointer (some ⟨h, 0, none⟩), lv, .agg #[.int .i64 k, .int .i64 n]] w (Stepped h v xs w) := by
  by_cases h1 : k = 1
  · subst h1; exact step_push h v ys lv xs n w P hl
  · by_cases h2 : k = 2
    · subst h2; exact step_pop h v ys lv xs n w P hl
    · by_cases h3 : k = 3
      · subst h3; exact step_swapin h v ys lv xs n w P hl
      · exact step_other h v ys lv xs k n w (by rw [beq_eq_false_iff_ne]; exact h1) (by rw [beq_eq_false_iff_ne]; exact h2) (by rw [beq_eq_false_iff_ne]; exact h3) P hl

theorem new9 (v0 : Value) (xs : List Int) (w : World) (hx : Lst w v0 xs) (hl : xs.length ≤ 1000000) :
    Calls Try.prog 8 #[.func (.func 9) #[] #[], v0] w fun e w' => ∃ h v ys, e = .returned (.pointer (some ⟨h, 0, none⟩)) ∧ HeapAt w' false h v ys ∧ IsHeap false ys ∧ ys.Perm xs ∧ Upd [] w w' ∧ w.heap.size ≤ h ∧ ∀ k, v.ownBlock = some k → w.heap.size ≤ k :=
  new_any false v0 xs w hx hl

/-- all of them, one by one -/
def putAll (xs : List Int) : List Int := xs.foldl put []
theorem putAll_snoc (xs : List Int) (a : Int) : putAll (xs ++ [a]) = put (putAll xs) a := by simp [putAll]
theorem putAll_spec (xs : List Int) : (putAll xs).Perm xs ∧ Rises (putAll xs) := by
  have key : ∀ (xs out : List Int), Rises out → (xs.foldl put out).Perm (out ++ xs) ∧ Rises (xs.foldl put out) := by
    intro xs
    induction xs with
    | nil => intro out h; exact ⟨by simp, h⟩
    | cons a r ih =>
      intro out h
      obtain ⟨h1, h2⟩ := ih (put out a) (put_rises h a)
      refine ⟨h1.trans ?_, h2⟩
      have h3 : (put out a ++ r).Perm ((a :: out) ++ r) := List.Perm.append_right r (put_perm out a)
      exact h3.trans (by simpa using (List.perm_middle (a := a) (l₁ := out) (l₂ := r)).symm)
  have := key xs [] List.Pairwise.nil
  simpa [putAll] using this
theorem putAll_len (xs : List Int) : (putAll xs).length = xs.length := (putAll_spec xs).1.length_eq

theorem bk_high {B h : Nat} {v : Value} (h1 : B ≤ h) (h2 : ∀ k, v.ownBlock = some k → B ≤ k) : ∀ k, k ∈ bk h v → B ≤ k := by
  intro k hk
  rcases List.mem_cons.1 hk with e | e
  · omega
  · exact h2 k (by simpa using e)
theorem bk_high_moved {w : World} {B h : Nat} {v v' : Value} (hb : ∀ k, k ∈ bk h v → B ≤ k) (hm : Moved w v v') (hw : B ≤ w.heap.size) : ∀ k, k ∈ bk h v' → B ≤ k := by
  intro k hk
  rcases bk_moved hm k hk with e | e
  · exact hb k e
  · omega

set_option maxHeartbeats 1000000 in
theorem plays_guard (p q : Option Addr) (n c m d : Nat) (w : World) (hg : 100 < n ∨ 150 < m) : Calls Try.prog 3 #[.slice p n c, .slice q m d] w fun e w' => e = .returned (.bool true) ∧ Upd [] w w' := by
  by_cases hn : 100 < n
  · clear hg
    go_enter Try.func3, Try.ntmps3
    go_wp2_with (go_at_call 7; refine (awake_any _).mono ?_; rintro e w' ⟨rfl, U⟩)
    go_ret
    exact ⟨rfl, U⟩
  · have hm : 150 < m := by omega
    clear hg
    go_enter Try.func3, Try.ntmps3
    go_wp2_with (go_at_call 7; refine (awake_any _).mono ?_; rintro e w' ⟨rfl, U⟩)
    go_ret
    exact ⟨rfl, U⟩

set_option maxRecDepth 100000 in
set_option maxHeartbeats 1000000 in
theorem plays_walk (v : Value) (q : Option Addr) (m d : Nat) (xs : List Int) (ps : List (Int × Int)) (w : World) (hx : Lst w v xs) (hps : ps.length = m) (hp : Pairs w q ps) (h1 : xs.length ≤ 100) (h2 : m ≤ 150) :
    Calls Try.prog 3 #[v, .slice q m d] w fun e w' => e = .returned (.bool true) ∧ Upd [] w w' := by
  obtain ⟨p, c, rfl, hv⟩ := hx
  have HV := Lib.hid hv
  have HPS := Lib.hid hps
  have HP := Lib.hid hp
  have l0 := hv.lst
  clear hv hps hp
  go_enter Try.func3, Try.ntmps3
  go_wp2_with fail
  refine (new9 _ xs w l0 (by omega)).mono ?_
  rintro e w1 ⟨h, v1, ys1, rfl, H1, hh1, hp1, U1, hb1, hg1⟩
  have hS := bk_high hb1 hg1
  have HS := Lib.hid hS
  have HH := Lib.hid (And.intro H1 (And.intro hh1 hp1))
  clear l0 H1 hh1 hp1 hb1 hg1 hS
  go_wp2_with fail
  go_loopw [6, 29] (fun u6 u29 wr => ∃ j : Nat, j ≤ xs.length ∧ u29 = .int .i64 j ∧ Own wr w1.heap.size u6 (putAll (xs.take j)) ∧ Upd [] w1 wr) (fun _ u29 _ => xs.length - (intOf u29).toNat)
  case atStart => exact ⟨0, Nat.zero_le _, rfl, Own.nil _ _, Upd.refl _ _⟩
  case round =>
    obtain ⟨j, hj, rfl, hown, U2⟩ := hrel
    have hol := putAll_len (xs.take j)
    rw [List.length_take] at hol
    by_cases hjl : j < xs.length
    · obtain ⟨a, ha⟩ : ∃ a, xs[j]? = some a := ⟨xs[j], List.getElem?_eq_getElem hjl⟩
      obtain ⟨bx, ox, rfl, hbx, hcx⟩ := (HV.out.upd (U1.trans U2)).cells j a ha
      have ca := hcx j a ha
      have hsn : putAll (xs.take (j + 1)) = put (putAll (xs.take j)) a := by rw [List.take_add_one, ha]; exact putAll_snoc _ _
      have HSN := Lib.hid hsn
      have lo := hown.lst
      have hlo : (putAll (xs.take j)).length ≤ 1000 := by omega
      clear hcx ha hsn hown hol
      go_wp2_with fail
      refine (put_any _ _ a wr lo (by omega)).mono ?_
      rintro e w3 ⟨⟨r3, rfl, ho3⟩, U3⟩
      have HO3 := Lib.hid (ho3.mono U2.size)
      have U4 := U2.trans U3
      clear ho3 lo ca U2 U3
      go_wp2_with fail
      go_roundw
      case rel => exact ⟨j + 1, hjl, by go_num, by rw [HSN.out]; exact HO3.out, U4⟩
      case measure => simp [intOf]; omega
    · have hje : j = xs.length := by omega
      subst hje
      rw [List.take_length] at hown
      have hsp := putAll_spec xs
      have P : Pair wr h v1 ys1 u6 (putAll xs) := ⟨HH.out.1.upd U2 (by simp), HH.out.2.1, HH.out.2.2.trans hsp.1.symm, hsp.2, hown.off HH.out.1.lt⟩
      have hck : heapB false ys1 = true := heapB_iff.2 HH.out.2.1
      have U3 := U1.trans U2
      have hpl : (putAll xs).length ≤ 100 := by rw [putAll_len]; exact h1
      have HCK := Lib.hid hck
      clear hown hsp hol U1 U2 HH hck
      generalize putAll xs = zs at P hpl
      go_wp2_with fail
      refine (check_any false h v1 ys1 wr P.at_).mono ?_
      rintro e w4 ⟨rfl, U4⟩
      rw [HCK.out]
      have P4 := P.same U4
      have U5 := U3.trans U4
      have HP4 := Lib.hid P4
      clear P P4 U3 U4
      go_wp2_with fail
      go_loopw [6, 42] (fun u6 u42 wr => ∃ (j : Nat) (v : Value) (ys zs : List Int), j ≤ m ∧ u42 = .int .i64 j ∧ Pair wr h v ys u6 zs ∧ zs.length ≤ 100 + j ∧ (∀ k, k ∈ bk h v → w.heap.size ≤ k) ∧ Upd [] w wr) (fun _ u42 _ => m - (intOf u42).toNat)
      case atStart => exact ⟨0, _, _, _, Nat.zero_le _, rfl, HP4.out, by omega, HS.out, U5⟩
      case round =>
        clear HP4 U5 HCK hpl
        obtain ⟨j, v, ys, zs, hj, rfl, P, hzl, hbk, U6⟩ := hrel
        by_cases hjm : j < m
        · obtain ⟨⟨A, C⟩, hac⟩ : ∃ y, ps[j]? = some y := ⟨ps[j]'(by have := HPS.out; omega), List.getElem?_eq_getElem _⟩
          obtain ⟨b, off, rfl, _, hcc⟩ := (HP.out.upd U6) j A C hac
          obtain ⟨cA, cC⟩ := hcc j A C hac
          obtain ⟨zp, zc, rfl, _⟩ := P.off
          have P0 := Lib.hid P
          have HBK := Lib.hid hbk
          have H6 := Lib.hid U6
          clear hac hcc P hbk U6
          go_wp2_with fail
          have UA : Upd [] wr (wr.alloc (.cells #[.int .i64 A, .int .i64 C] 30)) := (Upd.refl [] wr).alloc _
          refine (step_any h v ys _ zs A C _ (P0.out.same UA) (by omega)).mono ?_
          rintro e w2 ⟨⟨r, v', ys', zs', rfl, P2, hl2, hm2⟩, U7⟩
          have hbk2 := bk_high_moved HBK.out (hm2.trans_new UA.size) H6.out.size
          have U8 : Upd [] w w2 := (((H6.out.trans UA).mono (S' := bk h v) (by simp)).trans U7).shrink fun k hk hlt => by
            have := HBK.out k hk
            omega
          have hle2 := P2.len
          have hck : heapB false ys' = true := heapB_iff.2 P2.heap
          have hff : FirstOk (nth ys' 0) (decide (0 < ys'.length)) zs' := ⟨fun e => by
            rw [e] at hle2
            have : ys' = [] := List.eq_nil_of_length_eq_zero (by simpa using hle2)
            rw [this]
            exact ⟨rfl, rfl⟩, fun hx => ⟨decide_eq_true (by omega), P2.first hx⟩⟩
          have hlr : Ending.returned (.int .i64 (ys'.length : Int)) = .returned (.int .i64 (zs'.length : Int)) := by rw [hle2]
          have HLR := Lib.hid hlr
          have hnz : ((zs'.length : Int) != (zs'.length : Int)) = false := by simp
          have HL2 := Lib.hid (show zs'.length ≤ 100 + (j + 1) by omega)
          have HCK := Lib.hid hck
          have HFF := Lib.hid hff
          have HB2 := Lib.hid hbk2
          have H8 := Lib.hid U8
          obtain ⟨rp, rc, rfl, _⟩ := P2.off
          clear P0 HBK H6 cA cC U7 hm2 hbk2 U8 hck hff hle2 hlr hl2 UA
          go_wp2_with fail
          refine (check_any false h v' ys' w2 P2.at_).mono ?_
          rintro e w3 ⟨rfl, U9⟩
          rw [HCK.out]
          have P3 := P2.same U9
          have H9 := Lib.hid (H8.out.trans U9)
          clear P2 U9 H8
          go_wp2_with fail
          refine (len_any false h v' ys' w3 P3.at_).mono ?_
          rintro e w4 ⟨rfl, rfl⟩
          rw [HLR.out]
          go_wp2_with fail
          refine (first_any false h v' ys' w4 P3.at_).mono ?_
          rintro e w5 ⟨rfl, rfl⟩
          generalize nth ys' 0 = y0 at HFF ⊢
          generalize decide (0 < ys'.length) = okb at HFF ⊢
          go_wp2_with fail
          refine (first_yes y0 okb _ zs' w5 P3.off.lst HFF.out).mono ?_
          rintro e w6 ⟨rfl, rfl⟩
          have HP3 := Lib.hid P3
          clear P3
          go_wp2_with fail
          go_roundw
          case rel => exact ⟨j + 1, v', ys', zs', hjm, by go_num, HP3.out, HL2.out, HB2.out, H9.out⟩
          case measure => simp [intOf]; omega
        · go_wp2_with fail
          refine (awake_any _).mono ?_
          rintro e w9 ⟨rfl, U9⟩
          go_wp2_with fail
          go_ret
          exact ⟨rfl, U6.trans U9⟩

theorem plays_all (v : Value) (q : Option Addr) (m d : Nat) (xs : List Int) (ps : List (Int × Int)) (w : World) (hx : Lst w v xs) (hps : ps.length = m) (hp : Pairs w q ps) :
    Calls Try.prog 3 #[v, .slice q m d] w fun e w' => e = .returned (.bool true) ∧ Upd [] w w' := by
  by_cases hg : 100 < xs.length ∨ 150 < m
  · obtain ⟨p, c, rfl, _⟩ := hx
    exact plays_guard p q _ c m d w hg
  · exact plays_walk v q m d xs ps w hx hps hp (by omega) (by omega)

end Go.Proofs.Ytgeaboahccfdcaa
