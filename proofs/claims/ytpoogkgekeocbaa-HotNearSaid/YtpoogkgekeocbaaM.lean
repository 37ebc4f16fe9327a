/- The contracts, of lists wherever they lie; awake. -/
import Derived.Test.YtpoogkgekeocbaaRC
namespace Go.Proofs.Ytpoogkgekeocbaa
open Go.RowKit
attribute [local go_sem high] run_eq34 run_eq24

theorem lst_new (w : World) (xs : List Pt) (n : Nat) (hn : xs.length = n) (hm : n ≤ 1048576) : Lst (w.alloc (.cells (cells2 xs).toArray 24)) (.slice (some ⟨w.heap.size, 0, none⟩) n n) xs :=
  (own_new (et := 24) w xs n hn hm).lst

section
variable {w : World} {v : Value} {xs : List Pt}
theorem new_l (hx : Lst w v xs) (hn : xs.length ≤ 1000000) (hb : xs.all rightP = true) :
    Calls Try.prog 8 #[v] w fun e w' => (∃ s qs, e = .returned (.tuple #[.pointer (some ⟨s,0,none⟩), .int .i64 0]) ∧ SetAt w' s w.heap.size (uniq false xs) qs ∧ Rows (uniq true xs) qs) ∧ Upd [] w w' := by
  obtain ⟨p, c, rfl, hv⟩ := hx
  exact new_any p c xs w hv hn hb
theorem newbad_l (hx : Lst w v xs) (hn : xs.length ≤ 1048576) (hb : xs.all rightP = false) :
    Calls Try.prog 8 #[v] w fun e w' => e = .returned (.tuple #[.pointer none, .int .i64 11]) ∧ Upd [] w w' := by
  obtain ⟨p, c, rfl, hv⟩ := hx
  exact new_bad p c xs w hv hn hb
theorem refs_l (hx : Lst w v xs) (hn : xs.length ≤ 1000000) :
    Calls Try.prog 9 #[v] w fun e w' => (∃ v, e = .returned (.tuple #[v, .bool (xs.all rightP)]) ∧ Own 34 w' w.heap.size v xs) ∧ Upd [] w w' := by
  obtain ⟨p, c, rfl, hv⟩ := hx
  exact refs_any p c xs w hv hn
theorem sorted_l (hx : Lst w v xs) (hn : xs.length ≤ 1000000) :
    Calls Try.prog 10 #[v] w fun e w' => (∃ v, e = .returned v ∧ Own 34 w' w.heap.size v (uniq false xs)) ∧ Upd [] w w' := by
  obtain ⟨p, c, rfl, hv⟩ := hx
  exact sorted_any p c xs w hv hn
end

def aw : List Pt := [(3, 1), (1, 1), (2, 0), (1, 1)]
def ac : List Pt := [(1, 1), (2, 0), (3, 1)]
theorem aw_uniq : uniq false aw = ac := by decide +kernel
theorem aw_right : aw.all rightP = true := by decide +kernel
theorem aw_bad : [((4398046511104 : Int), (0 : Int))].all rightP = false := by decide +kernel
theorem ac_strict : Strict false ac := aw_uniq ▸ uniq_strict false aw
theorem ac_rows {qs : List RowT} (h : Rows (uniq true aw) qs) : qs.length = 2 := by
  have h1 := rows_count (l := ac) h fun x => by rw [← aw_uniq, uniq_mem, uniq_mem]
  rw [← h1]
  decide +kernel
theorem ac_two {n : Nat} (h : At ac (2, 0) n) : n = 1 ∧ isAt ac (2, 0) n = true := by
  have : n = 1 := h.unique (strict_at ac_strict (i := 1) rfl)
  subst this
  exact ⟨rfl, by decide +kernel⟩
theorem ac_nine {n : Nat} (h : At ac (9, 0) n) : isAt ac (9, 0) n = false := by
  have h1 := h.le
  change n ≤ 3 at h1
  match n, h1 with
  | 0, _ => decide +kernel
  | 1, _ => decide +kernel
  | 2, _ => decide +kernel
  | 3, _ => decide +kernel

set_option maxRecDepth 100000 in
set_option maxHeartbeats 2000000 in
theorem awake_any (w : World) : Calls Try.prog 7 #[] w fun e w' => e = .returned (.bool true) ∧ Upd [] w w' := by
  go_enter Try.func7, Try.ntmps7
  have l1 := lst_new w aw 4 rfl (by decide)
  have U1 : Upd [] w (w.alloc (.cells (cells2 aw).toArray 24)) := (Upd.refl [] _).alloc _
  change Lst (w.alloc (.cells #[.int .i64 3, .int .i64 1, .int .i64 1, .int .i64 1, .int .i64 2, .int .i64 0, .int .i64 1, .int .i64 1] 24)) _ _ at l1
  change Upd [] w (w.alloc (.cells #[.int .i64 3, .int .i64 1, .int .i64 1, .int .i64 1, .int .i64 2, .int .i64 0, .int .i64 1, .int .i64 1] 24)) at U1
  have L1 := Lib.hid l1
  have HU1 := Lib.hid U1
  clear l1 U1
  go_wp2_with fail
  refine (new_l L1.out (by decide) aw_right).mono ?_
  rintro e w2 ⟨⟨s, qs, rfl, hs, hr⟩, U2⟩
  rw [aw_uniq] at hs
  have HS := Lib.hid hs
  have HQ := Lib.hid (ac_rows hr)
  have HU2 := Lib.hid (HU1.out.trans U2)
  clear hs hr U2 HU1 L1
  generalize w.alloc (.cells #[.int .i64 3, .int .i64 1, .int .i64 1, .int .i64 1, .int .i64 2, .int .i64 0, .int .i64 1, .int .i64 1] 24) = w1 at HS ⊢
  go_wp2_with fail
  refine (len_any s _ _ _ _ HS.out).mono ?_
  rintro e w3 ⟨rfl, U3⟩
  rw [show (ac.length : Int) = 3 from rfl]
  have HS3 := Lib.hid (HS.out.upd U3)
  have HU3 := Lib.hid (HU2.out.trans U3)
  clear U3 HS HU2
  go_wp2_with fail
  refine (number_any s _ _ _ (2, 0) _ HS3.out (by decide) ac_strict.sorted).mono ?_
  rintro e w4 ⟨⟨n, rfl, hat⟩, U4⟩
  obtain ⟨rfl, hn2⟩ := ac_two hat
  rw [hn2, if_pos rfl]
  have HS4 := Lib.hid (HS3.out.upd U4)
  have HU4 := Lib.hid (HU3.out.trans U4)
  clear U4 HS3 HU3 hat hn2
  go_wp2_with fail
  refine (number_any s _ _ _ (9, 0) _ HS4.out (by decide) ac_strict.sorted).mono ?_
  rintro e w5 ⟨⟨n, rfl, hat⟩, U5⟩
  have hn2 := ac_nine hat
  rw [hn2, if_neg (by decide)]
  have HS5 := Lib.hid (HS4.out.upd U5)
  have HU5 := Lib.hid (HU4.out.trans U5)
  clear U5 HS4 HU4 hat hn2
  have l6 := lst_new w5 [(4398046511104, 0)] 1 rfl (by decide)
  have U6 : Upd [] w5 (w5.alloc (.cells (cells2 [((4398046511104 : Int), (0 : Int))]).toArray 24)) := (Upd.refl [] _).alloc _
  change Lst (w5.alloc (.cells #[.int .i64 4398046511104, .int .i64 0] 24)) _ _ at l6
  change Upd [] w5 (w5.alloc (.cells #[.int .i64 4398046511104, .int .i64 0] 24)) at U6
  have L6 := Lib.hid l6
  have HS6 := Lib.hid (HS5.out.upd U6)
  have HU6 := Lib.hid (HU5.out.trans U6)
  clear l6 U6 HS5 HU5
  go_wp2_with fail
  refine (newbad_l L6.out (by decide) aw_bad).mono ?_
  rintro e w7 ⟨rfl, U7⟩
  have HS7 := Lib.hid (HS6.out.upd U7)
  have HU7 := Lib.hid (HU6.out.trans U7)
  clear U7 HS6 HU6 L6
  go_wp2_with fail
  refine (rows_any s _ _ _ _ HS7.out).mono ?_
  rintro e w8 ⟨rfl, U8⟩
  rw [show (qs.length : Int) = 2 from by rw [HQ.out]; rfl]
  have HU8 := Lib.hid (HU7.out.trans U8)
  clear U8
  go_wp2_with fail
  exact bodyPost_ret (v := .bool true) (by simp [results, Try.results7, go_sem]) rfl ⟨rfl, HU8.out⟩

end Go.Proofs.Ytpoogkgekeocbaa
