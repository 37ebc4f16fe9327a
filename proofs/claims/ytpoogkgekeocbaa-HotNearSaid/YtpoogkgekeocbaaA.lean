/- The orders of points. -/
import Derived.Test.YtpoogkgekeocbaaP
namespace Go.Proofs.Ytpoogkgekeocbaa
open Go.RowKit

def cmpI (a b : Int) : Int := if a < b then -1 else if b < a then 1 else 0
def orI (a b : Int) : Int := if a = 0 then b else a

theorem isnan_any (a : Int) (w : World) : Calls Try.prog 46 #[.int .i64 a] w fun e w' => e = .returned (.bool false) ∧ w' = w := by
  go_enter Try.func46, Try.ntmps46
  go_wp2
  go_ret
  exact ⟨ret_bool (by simp), rfl⟩

theorem compare_any (a b : Int) (w : World) : Calls Try.prog 37 #[.int .i64 a, .int .i64 b] w fun e w' => e = .returned (.int .i64 (cmpI a b)) ∧ w' = w := by
  by_cases h1 : a < b
  · go_enter Try.func37, Try.ntmps37
    go_wp2_with (go_at_call 46; refine (isnan_any _ _).mono ?_; rintro e w' ⟨rfl, rfl⟩)
    go_ret
    exact ⟨ret_int (by unfold cmpI; rw [if_pos h1]), rfl⟩
  · by_cases h2 : b < a
    · go_enter Try.func37, Try.ntmps37
      go_wp2_with (go_at_call 46; refine (isnan_any _ _).mono ?_; rintro e w' ⟨rfl, rfl⟩)
      go_ret
      exact ⟨ret_int (by unfold cmpI; rw [if_neg (by omega), if_pos h2]), rfl⟩
    · go_enter Try.func37, Try.ntmps37
      go_wp2_with (go_at_call 46; refine (isnan_any _ _).mono ?_; rintro e w' ⟨rfl, rfl⟩)
      go_ret
      exact ⟨ret_int (by unfold cmpI; rw [if_neg (by omega), if_neg (by omega)]), rfl⟩

theorem or_any (a b : Int) (g c : Nat) (w : World) (h0 : w.cell? ⟨g, 0, none⟩ = some (.int .i64 a)) (h1 : w.cell? ⟨g, 1, none⟩ = some (.int .i64 b)) :
    Calls Try.prog 41 #[.slice (some ⟨g, 0, none⟩) 2 c] w fun e w' => e = .returned (.int .i64 (orI a b)) ∧ w' = w := by
  go_enter Try.func41, Try.ntmps41
  go_wp2_with fail
  go_loopw [8] (fun u8 wr => ∃ j : Nat, j ≤ 2 ∧ u8 = .int .i64 j ∧ (1 ≤ j → a = 0) ∧ (2 ≤ j → b = 0) ∧ wr = w) (fun u8 _ => 2 - (intOf u8).toNat)
  case atStart => exact ⟨0, by omega, rfl, fun h => by omega, fun h => by omega, rfl⟩
  case round =>
    obtain ⟨j, hj, rfl, ha, hb, rfl⟩ := hrel
    match j, hj, ha, hb with
    | 0, _, _, _ =>
      by_cases hz : a = 0
      · have hz2 : (a != 0) = false := by simp [hz]
        have HZ := Lib.hid hz
        clear hz
        go_wp2_with fail
        go_roundw
        case rel => exact ⟨1, by omega, by first | go_num | rfl, fun _ => HZ.out, fun h => by omega, trivial⟩
        case measure => simp [intOf]
      · have hz2 : (a != 0) = true := by simp [hz]
        have HZ := Lib.hid hz
        clear hz
        go_wp2_with fail
        go_ret
        exact ⟨ret_int (by unfold orI; rw [if_neg HZ.out]), rfl⟩
    | 1, _, ha, _ =>
      have haz := ha (Nat.le_refl _)
      have HA := Lib.hid haz
      clear ha haz
      by_cases hz : b = 0
      · have hz2 : (b != 0) = false := by simp [hz]
        have HZ := Lib.hid hz
        clear hz
        go_wp2_with fail
        go_roundw
        case rel => exact ⟨2, by omega, by first | go_num | rfl, fun _ => HA.out, fun _ => HZ.out, trivial⟩
        case measure => simp [intOf]
      · have hz2 : (b != 0) = true := by simp [hz]
        clear hz
        go_wp2_with fail
        go_ret
        exact ⟨ret_int (by unfold orI; rw [if_pos HA.out]), rfl⟩
    | 2, _, ha, hb =>
      have haz := ha (by omega)
      have hbz := hb (by omega)
      have HA := Lib.hid haz
      have HB := Lib.hid hbz
      clear ha hb haz hbz
      go_wp2_with fail
      go_ret
      exact ⟨ret_int (by unfold orI; rw [if_pos HA.out, HB.out]), rfl⟩

/-- by what they are put in order: false: X, then Y; true: Y, then X -/
def kd (t : Bool) (p : Pt) : Pt := if t then (p.2, p.1) else p
def ordP (t : Bool) (a b : Pt) : Int := orI (cmpI (kd t a).1 (kd t b).1) (cmpI (kd t a).2 (kd t b).2)
def ltP (t : Bool) (a b : Pt) : Prop := (kd t a).1 < (kd t b).1 ∨ ((kd t a).1 = (kd t b).1 ∧ (kd t a).2 < (kd t b).2)
instance (t a b) : Decidable (ltP t a b) := inferInstanceAs (Decidable (_ ∨ _))

theorem ordP_lt {t : Bool} {a b : Pt} : ordP t a b < 0 ↔ ltP t a b := by
  unfold ordP ltP orI cmpI
  generalize (kd t a).1 = x
  generalize (kd t b).1 = y
  generalize (kd t a).2 = z
  generalize (kd t b).2 = u
  by_cases h1 : x < y
  · simp [h1]
  · by_cases h2 : y < x
    · simp [h1, h2]; omega
    · have : x = y := by omega
      subst this
      by_cases h3 : z < u
      · simp [h3]
      · by_cases h4 : u < z
        · simp [h3, h4]
        · simp [h3, h4]
theorem kd_inj {t : Bool} {a b : Pt} (h1 : (kd t a).1 = (kd t b).1) (h2 : (kd t a).2 = (kd t b).2) : a = b := by
  unfold kd at h1 h2
  cases t
  · exact Prod.ext h1 h2
  · exact Prod.ext h2 h1
theorem ltP_tri (t : Bool) (a b : Pt) : ltP t a b ∨ a = b ∨ ltP t b a := by
  unfold ltP
  by_cases h1 : (kd t a).1 < (kd t b).1
  · exact .inl (.inl h1)
  · by_cases h2 : (kd t b).1 < (kd t a).1
    · exact .inr (.inr (.inl h2))
    · have he : (kd t a).1 = (kd t b).1 := by omega
      by_cases h3 : (kd t a).2 < (kd t b).2
      · exact .inl (.inr ⟨he, h3⟩)
      · by_cases h4 : (kd t b).2 < (kd t a).2
        · exact .inr (.inr (.inr ⟨he.symm, h4⟩))
        · exact .inr (.inl (kd_inj he (by omega)))
theorem ltP_irrefl (t : Bool) (a : Pt) : ¬ ltP t a a := by unfold ltP; omega
theorem ltP_trans {t : Bool} {a b c : Pt} (h : ltP t a b) (g : ltP t b c) : ltP t a c := by unfold ltP at *; omega
theorem ordP_eq {t : Bool} {a b : Pt} : ordP t a b = 0 ↔ a = b := by
  constructor
  · intro h
    rcases ltP_tri t a b with h1 | h1 | h1
    · have := ordP_lt.2 h1; omega
    · exact h1
    · exfalso
      unfold ltP at h1
      unfold ordP orI cmpI at h
      generalize (kd t a).1 = x at *
      generalize (kd t b).1 = y at *
      generalize (kd t a).2 = z at *
      generalize (kd t b).2 = u at *
      rcases h1 with h1 | ⟨h1, h2⟩
      · rw [if_neg (show ¬ x < y by omega), if_pos h1] at h; simp at h
      · rw [h1, if_neg (Int.lt_irrefl x), if_neg (Int.lt_irrefl x), if_pos rfl, if_neg (show ¬ z < u by omega), if_pos h2] at h; simp at h
  · rintro rfl
    unfold ordP orI cmpI
    simp

/-- the order's value -/
def ordV (t : Bool) : Value := .func (.func (if t then 26 else 23)) #[] #[]
def pv (p : Pt) : Value := .agg #[.int .i64 p.1, .int .i64 p.2]

set_option maxHeartbeats 1000000 in
theorem cmp_any (a b : Pt) (w : World) : Calls Try.prog 23 #[pv a, pv b] w fun e w' => e = .returned (.int .i64 (ordP false a b)) ∧ Upd [] w w' := by
  obtain ⟨a1, a2⟩ := a
  obtain ⟨b1, b2⟩ := b
  have ra := (IsRow.new w [.int .i64 a1, .int .i64 a2] 24).alloc (.cells #[.int .i64 b1, .int .i64 b2] 24)
  have rb := IsRow.new (w.alloc (.cells #[.int .i64 a1, .int .i64 a2] 24)) [.int .i64 b1, .int .i64 b2] 24
  simp only [World.size_alloc] at rb
  have U : Upd [] w ((w.alloc (.cells #[.int .i64 a1, .int .i64 a2] 24)).alloc (.cells #[.int .i64 b1, .int .i64 b2] 24)) := ((Upd.refl [] w).alloc _).alloc _
  obtain ⟨q, hq⟩ : ∃ z, z = w.heap.size := ⟨_, rfl⟩
  obtain ⟨r, hr⟩ : ∃ z, z = w.heap.size + 1 := ⟨_, rfl⟩
  rw [← hq] at ra
  rw [← hr] at rb
  have HQ := Lib.hid (And.intro hq hr)
  have HRA := Lib.hid ra
  have HRB := Lib.hid rb
  have HU := Lib.hid U
  show Calls Try.prog 23 #[.agg #[.int .i64 a1, .int .i64 a2], .agg #[.int .i64 b1, .int .i64 b2]] w _
  clear ra rb U
  go_enter Try.func23, Try.ntmps23
  go_wp2_with fail
  rw [← hr, ← hq]
  have ra := HRA.out
  have rb := HRB.out
  have U := HU.out
  clear hq hr HQ HRA HRB HU
  generalize (w.alloc (.cells #[.int .i64 a1, .int .i64 a2] 24)).alloc (.cells #[.int .i64 b1, .int .i64 b2] 24) = w2 at ra rb U ⊢
  have hS : w2.cell? ⟨q, 0, none⟩ = some (.int .i64 a1) ∧ w2.cell? ⟨q, 1, none⟩ = some (.int .i64 a2) ∧ w2.cell? ⟨r, 0, none⟩ = some (.int .i64 b1) ∧ w2.cell? ⟨r, 1, none⟩ = some (.int .i64 b2) := ⟨ra.cell 0, ra.cell 1, rb.cell 0, rb.cell 1⟩
  have hS2 : ∀ o, (w2.alloc o).cell? ⟨q, 0, none⟩ = some (.int .i64 a1) ∧ (w2.alloc o).cell? ⟨q, 1, none⟩ = some (.int .i64 a2) ∧ (w2.alloc o).cell? ⟨r, 0, none⟩ = some (.int .i64 b1) ∧ (w2.alloc o).cell? ⟨r, 1, none⟩ = some (.int .i64 b2) :=
    fun o => ⟨(ra.alloc o).cell 0, (ra.alloc o).cell 1, (rb.alloc o).cell 0, (rb.alloc o).cell 1⟩
  clear ra rb
  go_region_held3 (fun w' => w'.cell? ⟨q, 0, none⟩ = some (.int .i64 a1) ∧ w'.cell? ⟨q, 1, none⟩ = some (.int .i64 a2) ∧ w'.cell? ⟨r, 0, none⟩ = some (.int .i64 b1) ∧ w'.cell? ⟨r, 1, none⟩ = some (.int .i64 b2)) (first | exact hS | exact hS2 _)
    (first | (go_at_call 37; refine (compare_any _ _ _).mono ?_; rintro e w9 ⟨rfl, rfl⟩) | (go_at_call 41; refine (or_any (cmpI a1 b1) (cmpI a2 b2) w2.heap.size 2 ((w2.alloc (.cells #[.int .i64 (cmpI a1 b1), .int .i64 (cmpI a2 b2)] 3)).drew) (IsRow.cell (IsRow.new w2 [.int .i64 (cmpI a1 b1), .int .i64 (cmpI a2 b2)] 3) 0) (IsRow.cell (IsRow.new w2 [.int .i64 (cmpI a1 b1), .int .i64 (cmpI a2 b2)] 3) 1)).mono ?_; rintro e w9 ⟨rfl, rfl⟩))
  all_goals
    go_wp2_with fail
    go_ret
    exact ⟨rfl, (U.alloc _).drew⟩

set_option maxHeartbeats 1000000 in
theorem byrow_any (a b : Pt) (w : World) : Calls Try.prog 26 #[pv a, pv b] w fun e w' => e = .returned (.int .i64 (ordP true a b)) ∧ Upd [] w w' := by
  obtain ⟨a1, a2⟩ := a
  obtain ⟨b1, b2⟩ := b
  have ra := (IsRow.new w [.int .i64 a1, .int .i64 a2] 24).alloc (.cells #[.int .i64 b1, .int .i64 b2] 24)
  have rb := IsRow.new (w.alloc (.cells #[.int .i64 a1, .int .i64 a2] 24)) [.int .i64 b1, .int .i64 b2] 24
  simp only [World.size_alloc] at rb
  have U : Upd [] w ((w.alloc (.cells #[.int .i64 a1, .int .i64 a2] 24)).alloc (.cells #[.int .i64 b1, .int .i64 b2] 24)) := ((Upd.refl [] w).alloc _).alloc _
  obtain ⟨q, hq⟩ : ∃ z, z = w.heap.size := ⟨_, rfl⟩
  obtain ⟨r, hr⟩ : ∃ z, z = w.heap.size + 1 := ⟨_, rfl⟩
  rw [← hq] at ra
  rw [← hr] at rb
  have HQ := Lib.hid (And.intro hq hr)
  have HRA := Lib.hid ra
  have HRB := Lib.hid rb
  have HU := Lib.hid U
  show Calls Try.prog 26 #[.agg #[.int .i64 a1, .int .i64 a2], .agg #[.int .i64 b1, .int .i64 b2]] w _
  clear ra rb U
  go_enter Try.func26, Try.ntmps26
  go_wp2_with fail
  rw [← hr, ← hq]
  have ra := HRA.out
  have rb := HRB.out
  have U := HU.out
  clear hq hr HQ HRA HRB HU
  generalize (w.alloc (.cells #[.int .i64 a1, .int .i64 a2] 24)).alloc (.cells #[.int .i64 b1, .int .i64 b2] 24) = w2 at ra rb U ⊢
  have hS : w2.cell? ⟨q, 0, none⟩ = some (.int .i64 a1) ∧ w2.cell? ⟨q, 1, none⟩ = some (.int .i64 a2) ∧ w2.cell? ⟨r, 0, none⟩ = some (.int .i64 b1) ∧ w2.cell? ⟨r, 1, none⟩ = some (.int .i64 b2) := ⟨ra.cell 0, ra.cell 1, rb.cell 0, rb.cell 1⟩
  have hS2 : ∀ o, (w2.alloc o).cell? ⟨q, 0, none⟩ = some (.int .i64 a1) ∧ (w2.alloc o).cell? ⟨q, 1, none⟩ = some (.int .i64 a2) ∧ (w2.alloc o).cell? ⟨r, 0, none⟩ = some (.int .i64 b1) ∧ (w2.alloc o).cell? ⟨r, 1, none⟩ = some (.int .i64 b2) :=
    fun o => ⟨(ra.alloc o).cell 0, (ra.alloc o).cell 1, (rb.alloc o).cell 0, (rb.alloc o).cell 1⟩
  clear ra rb
  go_region_held3 (fun w' => w'.cell? ⟨q, 0, none⟩ = some (.int .i64 a1) ∧ w'.cell? ⟨q, 1, none⟩ = some (.int .i64 a2) ∧ w'.cell? ⟨r, 0, none⟩ = some (.int .i64 b1) ∧ w'.cell? ⟨r, 1, none⟩ = some (.int .i64 b2)) (first | exact hS | exact hS2 _)
    (first | (go_at_call 37; refine (compare_any _ _ _).mono ?_; rintro e w9 ⟨rfl, rfl⟩) | (go_at_call 41; refine (or_any (cmpI a2 b2) (cmpI a1 b1) w2.heap.size 2 ((w2.alloc (.cells #[.int .i64 (cmpI a2 b2), .int .i64 (cmpI a1 b1)] 3)).drew) (IsRow.cell (IsRow.new w2 [.int .i64 (cmpI a2 b2), .int .i64 (cmpI a1 b1)] 3) 0) (IsRow.cell (IsRow.new w2 [.int .i64 (cmpI a2 b2), .int .i64 (cmpI a1 b1)] 3) 1)).mono ?_; rintro e w9 ⟨rfl, rfl⟩))
  all_goals
    go_wp2_with fail
    go_ret
    exact ⟨rfl, (U.alloc _).drew⟩

theorem ord_any (t : Bool) (a b : Pt) (w : World) : Calls Try.prog (if t then 26 else 23) #[pv a, pv b] w fun e w' => e = .returned (.int .i64 (ordP t a b)) ∧ Upd [] w w' := by
  cases t with
  | false => exact cmp_any a b w
  | true => exact byrow_any a b w

/-- may it be a coordinate? -/
def inR (n : Int) : Bool := decide (-2199023255552 ≤ n) && decide (n ≤ 2199023255552)
def rightP (p : Pt) : Bool := inR p.1 && inR p.2

theorem within_any (n : Int) (w : World) : Calls Try.prog 39 #[.int .i64 n] w fun e w' => e = .returned (.bool (inR n)) ∧ w' = w := by
  by_cases h : -2199023255552 ≤ n
  · have h1 : decide (-2199023255552 ≤ n) = true := decide_eq_true h
    have h2 : inR n = decide (n ≤ 2199023255552) := by unfold inR; rw [h1]; rfl
    have H2 := Lib.hid h2
    clear h2 h1
    go_enter Try.func39, Try.ntmps39
    go_wp2
    go_ret
    exact ⟨ret_bool H2.out.symm, rfl⟩
  · have h1 : decide (-2199023255552 ≤ n) = false := decide_eq_false h
    have h2 : inR n = false := by unfold inR; rw [h1]; rfl
    have H2 := Lib.hid h2
    clear h2 h1
    go_enter Try.func39, Try.ntmps39
    go_wp2
    go_ret
    exact ⟨ret_bool H2.out.symm, rfl⟩

theorem right_any (p : Pt) (w : World) : Calls Try.prog 21 #[pv p] w fun e w' => e = .returned (.bool (rightP p)) ∧ Upd [] w w' := by
  obtain ⟨a, b⟩ := p
  have r := IsRow.new w [.int .i64 a, .int .i64 b] 24
  have U : Upd [] w (w.alloc (.cells #[.int .i64 a, .int .i64 b] 24)) := (Upd.refl [] w).alloc _
  have c0 := r.cell 0
  have c1 := r.cell 1
  simp only [List.getElem?_cons_zero, List.getElem?_cons_succ] at c0 c1
  show Calls Try.prog 21 #[.agg #[.int .i64 a, .int .i64 b]] w _
  cases ha : inR a with
  | true =>
    have e : rightP (a, b) = inR b := by unfold rightP; simp [ha]
    rw [e]
    have HA := Lib.hid ha
    clear ha e r
    go_enter Try.func21, Try.ntmps21
    go_wp2_with fail
    refine (within_any a _).mono ?_
    rintro e w9 ⟨rfl, rfl⟩
    rw [HA.out]
    go_wp2_with fail
    refine (within_any b _).mono ?_
    rintro e w9 ⟨rfl, rfl⟩
    go_wp2_with fail
    go_ret
    exact ⟨rfl, U⟩
  | false =>
    have e : rightP (a, b) = false := by unfold rightP; simp [ha]
    rw [e]
    have HA := Lib.hid ha
    clear ha e r
    go_enter Try.func21, Try.ntmps21
    go_wp2_with fail
    refine (within_any a _).mono ?_
    rintro e w9 ⟨rfl, rfl⟩
    rw [HA.out]
    go_wp2_with fail
    go_ret
    exact ⟨rfl, U⟩

theorem notright_any (p : Pt) (w : World) : Calls Try.prog 20 #[pv p] w fun e w' => e = .returned (.bool (!rightP p)) ∧ Upd [] w w' := by
  obtain ⟨a, b⟩ := p
  have r := IsRow.new w [.int .i64 a, .int .i64 b] 24
  have U : Upd [] w (w.alloc (.cells #[.int .i64 a, .int .i64 b] 24)) := (Upd.refl [] w).alloc _
  have c0 := r.cell 0
  have c1 := r.cell 1
  simp only [List.getElem?_cons_zero, List.getElem?_cons_succ] at c0 c1
  show Calls Try.prog 20 #[.agg #[.int .i64 a, .int .i64 b]] w _
  clear r
  go_enter Try.func20, Try.ntmps20
  go_wp2_with fail
  refine (right_any (a, b) _).mono ?_
  rintro e w9 ⟨rfl, U9⟩
  go_wp2_with fail
  go_ret
  exact ⟨rfl, U.trans U9⟩

theorem samey_any (p q : Pt) (w : World) : Calls Try.prog 27 #[pv p, pv q] w fun e w' => e = .returned (.bool (p.2 == q.2)) ∧ Upd [] w w' := by
  obtain ⟨a1, a2⟩ := p
  obtain ⟨b1, b2⟩ := q
  have U : Upd [] w ((w.alloc (.cells #[.int .i64 a1, .int .i64 a2] 24)).alloc (.cells #[.int .i64 b1, .int .i64 b2] 24)) := ((Upd.refl [] w).alloc _).alloc _
  show Calls Try.prog 27 #[.agg #[.int .i64 a1, .int .i64 a2], .agg #[.int .i64 b1, .int .i64 b2]] w _
  go_enter Try.func27, Try.ntmps27
  go_wp2_with fail
  go_ret
  exact ⟨rfl, U⟩

theorem refright_any (p : Pt) (w : World) : Calls Try.prog 28 #[pv p] w fun e w' => e = .returned (.bool (rightP p)) ∧ Upd [] w w' := by
  obtain ⟨a, b⟩ := p
  have U : Upd [] w (w.alloc (.cells #[.int .i64 a, .int .i64 b] 34)) := (Upd.refl [] w).alloc _
  show Calls Try.prog 28 #[.agg #[.int .i64 a, .int .i64 b]] w _
  by_cases h1 : -2199023255552 ≤ a
  · by_cases h2 : a ≤ 2199023255552
    · by_cases h3 : -2199023255552 ≤ b
      · have e : rightP (a, b) = decide (b ≤ 2199023255552) := by unfold rightP inR; simp [h1, h2, h3]
        have HE := Lib.hid e
        clear e
        go_enter Try.func28, Try.ntmps28
        go_wp2_with fail
        go_ret
        exact ⟨ret_bool HE.out.symm, U⟩
      · have e : rightP (a, b) = false := by unfold rightP inR; simp [h3]
        have HE := Lib.hid e
        clear e
        go_enter Try.func28, Try.ntmps28
        go_wp2_with fail
        go_ret
        exact ⟨ret_bool HE.out.symm, U⟩
    · have e : rightP (a, b) = false := by unfold rightP inR; simp [h2]
      have HE := Lib.hid e
      clear e
      go_enter Try.func28, Try.ntmps28
      go_wp2_with fail
      go_ret
      exact ⟨ret_bool HE.out.symm, U⟩
  · have e : rightP (a, b) = false := by unfold rightP inR; simp [h1]
    have HE := Lib.hid e
    clear e
    go_enter Try.func28, Try.ntmps28
    go_wp2_with fail
    go_ret
    exact ⟨ret_bool HE.out.symm, U⟩

def ltB (t : Bool) (a b : Pt) : Bool := decide (ltP t a b)
theorem ahead_any (p q : Pt) (w : World) : Calls Try.prog 29 #[pv p, pv q] w fun e w' => e = .returned (.bool (ltB false p q)) ∧ Upd [] w w' := by
  obtain ⟨a1, a2⟩ := p
  obtain ⟨b1, b2⟩ := q
  have U : Upd [] w ((w.alloc (.cells #[.int .i64 a1, .int .i64 a2] 34)).alloc (.cells #[.int .i64 b1, .int .i64 b2] 34)) := ((Upd.refl [] w).alloc _).alloc _
  show Calls Try.prog 29 #[.agg #[.int .i64 a1, .int .i64 a2], .agg #[.int .i64 b1, .int .i64 b2]] w _
  by_cases h1 : a1 < b1
  · have e : ltB false (a1, a2) (b1, b2) = true := by unfold ltB ltP kd; exact decide_eq_true (.inl h1)
    have HE := Lib.hid e
    clear e
    go_enter Try.func29, Try.ntmps29
    go_wp2_with fail
    go_ret
    exact ⟨ret_bool HE.out.symm, U⟩
  · by_cases h2 : a1 = b1
    · have e : ltB false (a1, a2) (b1, b2) = decide (a2 < b2) := by
        unfold ltB ltP kd
        by_cases h3 : a2 < b2
        · simp [h2, h3]
        · simp [h2, h3]
      have HE := Lib.hid e
      have hb : (a1 == b1) = true := by rw [beq_iff_eq]; exact h2
      have h1' : decide (a1 < b1) = false := decide_eq_false h1
      clear e h2 h1
      go_enter Try.func29, Try.ntmps29
      go_wp2_with fail
      go_ret
      exact ⟨ret_bool HE.out.symm, U⟩
    · have e : ltB false (a1, a2) (b1, b2) = false := by
        unfold ltB ltP kd
        exact decide_eq_false (by simp; omega)
      have HE := Lib.hid e
      have hb : (a1 == b1) = false := by rw [beq_eq_false_iff_ne]; exact h2
      clear e
      go_enter Try.func29, Try.ntmps29
      go_wp2_with fail
      go_ret
      exact ⟨ret_bool HE.out.symm, U⟩

end Go.Proofs.Ytpoogkgekeocbaa
