/- step; awake. -/
import Derived.Test.YtgeaboahccfdcaaF
namespace Go.Proofs.Ytgeaboahccfdcaa
open Go.RowKit

/-- The heap and the list go together. -/
structure Pair (w : World) (h : Nat) (v : Value) (ys : List Int) (lv : Value) (xs : List Int) : Prop where
  at_ : HeapAt w false h v ys
  heap : IsHeap false ys
  perm : ys.Perm xs
  rises : Rises xs
  off : Off w lv xs (bk h v)

theorem Pair.len {w h v ys lv xs} (P : Pair w h v ys lv xs) : ys.length = xs.length := P.perm.length_eq
theorem Pair.first {w h v ys lv xs} (P : Pair w h v ys lv xs) (hx : 0 < xs.length) : nth ys 0 = nth xs 0 := by
  cases xs with
  | nil => simp at hx
  | cons a r => exact heap_first P.heap P.perm P.rises
theorem Pair.same {w w' h v ys lv xs} (P : Pair w h v ys lv xs) (u : Upd [] w w') : Pair w' h v ys lv xs :=
  ⟨P.at_.upd u (by simp), P.heap, P.perm, P.rises, P.off.same u⟩

theorem Off.tail {w : World} {b off c : Nat} {x : Int} {xs : List Int} {S : List Nat} (h : Off w (.slice (some ⟨b, off, none⟩) (xs.length + 1) c) (x :: xs) S) (p : Option Addr) (hp : p = some ⟨b, off + 1, none⟩ ∨ (c = 1 ∧ p ≠ none)) :
    Off w (.slice p xs.length (c - 1)) xs S := by
  obtain ⟨p', c', e, hv, hn⟩ := h
  simp only [Value.slice.injEq] at e
  obtain ⟨rfl, _, rfl⟩ := e
  refine ⟨p, c - 1, rfl, hv.tail p hp, fun b' off' e' hx => ?_⟩
  have hle := hv.le
  simp only [List.length_cons] at hle
  rcases hp with hp | hp
  · rw [hp] at e'
    cases e'
    exact hn b off rfl (by simp)
  · omega

theorem Pair.pop {w w' : World} {h v ys lv xs v' zs} (P : Pair w h v ys lv xs) (H : HeapAt w' false h v' zs) (hh : IsHeap false zs) (h1 : 0 < ys.length → (nth ys 0 :: zs).Perm ys) (h2 : ys.length = 0 → zs = []) : zs.Perm xs.tail := by
  cases hx : xs with
  | nil =>
    have hl := P.len
    rw [hx] at hl
    rw [h2 (by simpa using hl)]
    exact List.Perm.refl _
  | cons a r =>
    have hl := P.len
    have hp : 0 < ys.length := by rw [hl, hx]; simp
    have h3 := P.first (by rw [hx]; simp)
    have h4 := (h1 hp).trans P.perm
    rw [h3, hx] at h4
    exact List.Perm.cons_inv h4

theorem tail_rises {xs : List Int} (h : Rises xs) : Rises xs.tail := by
  cases xs with
  | nil => exact h
  | cons a r => exact (List.pairwise_cons.1 h).2

theorem put_tail_perm {xs zs ys : List Int} {n : Int} (hx : ys.Perm xs) (h3 : 0 < xs.length → nth ys 0 = nth xs 0) (h1 : 0 < ys.length → (nth ys 0 :: zs).Perm (n :: ys)) (h2 : ys.length = 0 → zs.Perm [n]) : zs.Perm (put xs.tail n) := by
  have hl := hx.length_eq
  refine List.Perm.trans ?_ (put_perm xs.tail n).symm
  cases xs with
  | nil => exact h2 (by simpa using hl)
  | cons a r =>
    have hp : 0 < ys.length := by rw [hl]; simp
    have h4 := h1 hp
    rw [h3 (by simp)] at h4
    have h5 : (a :: zs).Perm (n :: a :: r) := h4.trans (List.Perm.cons n hx)
    exact List.Perm.cons_inv (h5.trans (List.Perm.swap a n r))

/-- 'l[1:]', if there is one -/
theorem rest_cases (xs : List Int) (lv : Value) (w : World) (S : List Nat) (h : Off w lv xs S) : (xs = [] ∧ ∃ p c, lv = .slice p 0 c) ∨ ∃ x r b off c, xs = x :: r ∧ lv = .slice (some ⟨b, off, none⟩) (r.length + 1) c ∧ 1 ≤ c := by
  obtain ⟨p, c, rfl, hv, _⟩ := h
  cases xs with
  | nil => exact .inl ⟨rfl, p, c, rfl⟩
  | cons x r =>
    obtain ⟨b, off, rfl, _⟩ := hv.block (by simp)
    have := hv.le
    simp only [List.length_cons] at this
    exact .inr ⟨x, r, b, off, c, rfl, rfl, by omega⟩

/-- What step leaves. -/
def Stepped (h : Nat) (v : Value) (xs : List Int) (w : World) (e : Ending) (w' : World) : Prop :=
  (∃ r v' ys' xs', e = .returned (.tuple #[r, .bool true]) ∧ Pair w' h v' ys' r xs' ∧ xs'.length ≤ xs.length + 1 ∧ Moved w v v') ∧ Upd (bk h v) w w'

theorem Moved.trans_new {w w' : World} {v v' : Value} (h : Moved w' v v') (hs : w.heap.size ≤ w'.heap.size) : Moved w v v' := by
  rcases h with h | ⟨k, h1, h2⟩
  · exact .inl h
  · exact .inr ⟨k, h1, by omega⟩


set_option maxRecDepth 100000 in
set_option maxHeartbeats 1000000 in
theorem step_push (h : Nat) (v : Value) (ys : List Int) (lv : Value) (xs : List Int) (n : Int) (w : World) (P : Pair w h v ys lv xs) (hl : xs.length ≤ 100000) :
    Calls Try.prog 12 #[.pointer (some ⟨h, 0, none⟩), lv, .agg #[.int .i64 1, .int .i64 n]] w (Stepped h v xs w) := by
  have hlen := P.len
  have U1 : Upd [] w (w.alloc (.cells #[.int .i64 1, .int .i64 n] 30)) := (Upd.refl [] w).alloc _
  have P1 := P.same U1
  have r1 := IsRow.new w [.int .i64 1, .int .i64 n] 30
  have hqb : w.heap.size ∉ bk h v := fun e => by have := P.at_.lt _ e; omega
  have HQB := Lib.hid hqb
  have HR1 := Lib.hid r1
  have HU1 := Lib.hid U1
  have c0 := r1.cell 0
  have c1 := r1.cell 1
  simp only [List.getElem?_cons_zero, List.getElem?_cons_succ] at c0 c1
  rcases rest_cases xs lv w _ P.off with ⟨rfl, p, c, rfl⟩ | ⟨x, r, b, off, c, rfl, rfl, hc⟩
  · have offr0 : Off _ (.slice p 0 c) ([] : List Int).tail (bk h v) := P1.off
    have HP1 := Lib.hid P1
    have HOR := Lib.hid offr0
    clear P P1 hqb r1 U1 offr0
    go_enter Try.func12, Try.ntmps12
    go_wp2_with fail
    refine (push_any false h v ys n _ HP1.out.at_ HP1.out.heap (by omega)).mono ?_
    rintro e w2 ⟨⟨r2, rfl⟩, ⟨v', zs, H2, hh2, hp2, hm2⟩, U2⟩
    have rw2 := HR1.out.upd U2 HQB.out
    have c2 := rw2.cell 1
    simp only [List.getElem?_cons_zero, List.getElem?_cons_succ] at c2
    have off2 := HP1.out.off.upd U2 (bk_moved hm2)
    clear c0 c1
    go_wp2_with fail
    refine (put_any _ ([] : List Int) n w2 off2.lst (by simp <;> omega)).mono ?_
    rintro e w3 ⟨⟨r3, rfl, ho3⟩, U3⟩
    have P3 : Pair w3 h v' zs r3 (put ([] : List Int) n) := ⟨H2.upd U3 (by simp), hh2, (hp2.trans (List.Perm.cons n HP1.out.perm)).trans (put_perm _ n).symm, put_rises HP1.out.rises n, ho3.off H2.lt⟩
    have U4 : Upd (bk h v) w w3 := ((HU1.out.mono (by simp)).trans U2).trans (U3.mono (by simp))
    have HF := Lib.hid (And.intro P3 (And.intro (hm2.trans_new HU1.out.size) U4))
    clear c2 off2 rw2 H2 hh2 hp2 hm2 U2 U3 ho3 P3 U4
    go_wp2_with fail
    exact bodyPost_ret (v := .tuple #[r3, .bool true]) (by simp [results, Try.results12, go_sem]) rfl ⟨⟨r3, v', zs, _, rfl, HF.out.1, by rw [put_len]; simp, HF.out.2.1⟩, HF.out.2.2⟩
  · simp only [List.length_cons] at hlen hl
    have z1 : (1 : Int) ≤ (r.length : Int) + 1 := by omega
    have z2 : (0 : Int) < (r.length : Int) + 1 := by omega
    have z3 : (r.length : Int) + 1 ≤ (c : Int) := by
      obtain ⟨_, _, e, hv, _⟩ := P.off
      simp only [Value.slice.injEq] at e
      obtain ⟨_, _, rfl⟩ := e
      have := hv.le
      simp only [List.length_cons] at this
      omega
    have z4 : (1 : Int) ≤ (c : Int) := by omega
    by_cases hc1 : c = 1
    · subst hc1
      have offr0 : Off _ (.slice (some ⟨b, off, none⟩) r.length (1 - 1)) (x :: r).tail (bk h v) := P1.off.tail _ (.inr ⟨rfl, by simp⟩)
      have HP1 := Lib.hid P1
      have HOR := Lib.hid offr0
      clear P P1 hqb r1 U1 offr0
      go_enter Try.func12, Try.ntmps12
      go_wp2_with fail
      refine (push_any false h v ys n _ HP1.out.at_ HP1.out.heap (by omega)).mono ?_
      rintro e w2 ⟨⟨r2, rfl⟩, ⟨v', zs, H2, hh2, hp2, hm2⟩, U2⟩
      have rw2 := HR1.out.upd U2 HQB.out
      have c2 := rw2.cell 1
      simp only [List.getElem?_cons_zero, List.getElem?_cons_succ] at c2
      have off2 := HP1.out.off.upd U2 (bk_moved hm2)
      clear c0 c1
      go_wp2_with fail
      refine (put_any _ (x :: r) n w2 off2.lst (by simp <;> omega)).mono ?_
      rintro e w3 ⟨⟨r3, rfl, ho3⟩, U3⟩
      have P3 : Pair w3 h v' zs r3 (put (x :: r) n) := ⟨H2.upd U3 (by simp), hh2, (hp2.trans (List.Perm.cons n HP1.out.perm)).trans (put_perm _ n).symm, put_rises HP1.out.rises n, ho3.off H2.lt⟩
      have U4 : Upd (bk h v) w w3 := ((HU1.out.mono (by simp)).trans U2).trans (U3.mono (by simp))
      have HF := Lib.hid (And.intro P3 (And.intro (hm2.trans_new HU1.out.size) U4))
      clear c2 off2 rw2 H2 hh2 hp2 hm2 U2 U3 ho3 P3 U4
      go_wp2_with fail
      exact bodyPost_ret (v := .tuple #[r3, .bool true]) (by simp [results, Try.results12, go_sem]) rfl ⟨⟨r3, v', zs, _, rfl, HF.out.1, by rw [put_len]; simp, HF.out.2.1⟩, HF.out.2.2⟩
    · skip
      have offr0 : Off _ (.slice (some ⟨b, off + 1, none⟩) r.length (c - 1)) (x :: r).tail (bk h v) := P1.off.tail _ (.inl rfl)
      have HP1 := Lib.hid P1
      have HOR := Lib.hid offr0
      clear P P1 hqb r1 U1 offr0
      go_enter Try.func12, Try.ntmps12
      go_wp2_with fail
      refine (push_any false h v ys n _ HP1.out.at_ HP1.out.heap (by omega)).mono ?_
      rintro e w2 ⟨⟨r2, rfl⟩, ⟨v', zs, H2, hh2, hp2, hm2⟩, U2⟩
      have rw2 := HR1.out.upd U2 HQB.out
      have c2 := rw2.cell 1
      simp only [List.getElem?_cons_zero, List.getElem?_cons_succ] at c2
      have off2 := HP1.out.off.upd U2 (bk_moved hm2)
      clear c0 c1
      go_wp2_with fail
      refine (put_any _ (x :: r) n w2 off2.lst (by simp <;> omega)).mono ?_
      rintro e w3 ⟨⟨r3, rfl, ho3⟩, U3⟩
      have P3 : Pair w3 h v' zs r3 (put (x :: r) n) := ⟨H2.upd U3 (by simp), hh2, (hp2.trans (List.Perm.cons n HP1.out.perm)).trans (put_perm _ n).symm, put_rises HP1.out.rises n, ho3.off H2.lt⟩
      have U4 : Upd (bk h v) w w3 := ((HU1.out.mono (by simp)).trans U2).trans (U3.mono (by simp))
      have HF := Lib.hid (And.intro P3 (And.intro (hm2.trans_new HU1.out.size) U4))
      clear c2 off2 rw2 H2 hh2 hp2 hm2 U2 U3 ho3 P3 U4
      go_wp2_with fail
      exact bodyPost_ret (v := .tuple #[r3, .bool true]) (by simp [results, Try.results12, go_sem]) rfl ⟨⟨r3, v', zs, _, rfl, HF.out.1, by rw [put_len]; simp, HF.out.2.1⟩, HF.out.2.2⟩

set_option maxRecDepth 100000 in
set_option maxHeartbeats 1000000 in
theorem step_pop (h : Nat) (v : Value) (ys : List Int) (lv : Value) (xs : List Int) (n : Int) (w : World) (P : Pair w h v ys lv xs) (hl : xs.length ≤ 100000) :
    Calls Try.prog 12 #[.pointer (some ⟨h, 0, none⟩), lv, .agg #[.int .i64 2, .int .i64 n]] w (Stepped h v xs w) := by
  have hlen := P.len
  have U1 : Upd [] w (w.alloc (.cells #[.int .i64 2, .int .i64 n] 30)) := (Upd.refl [] w).alloc _
  have P1 := P.same U1
  have r1 := IsRow.new w [.int .i64 2, .int .i64 n] 30
  have hqb : w.heap.size ∉ bk h v := fun e => by have := P.at_.lt _ e; omega
  have HQB := Lib.hid hqb
  have HR1 := Lib.hid r1
  have HU1 := Lib.hid U1
  have c0 := r1.cell 0
  have c1 := r1.cell 1
  simp only [List.getElem?_cons_zero, List.getElem?_cons_succ] at c0 c1
  rcases rest_cases xs lv w _ P.off with ⟨rfl, p, c, rfl⟩ | ⟨x, r, b, off, c, rfl, rfl, hc⟩
  · have offr0 : Off _ (.slice p 0 c) ([] : List Int).tail (bk h v) := P1.off
    have HP1 := Lib.hid P1
    have HOR := Lib.hid offr0
    clear P P1 hqb r1 U1 offr0
    go_enter Try.func12, Try.ntmps12
    go_wp2_with fail
    refine (pop_any false h v ys _ HP1.out.at_ HP1.out.heap).mono ?_
    rintro e w2 ⟨rfl, ⟨v', zs, H2, hh2, hp2, hq2, hm2⟩, U2⟩
    have off2 := HP1.out.off.upd U2 (bk_moved (Moved.same hm2 (w := w2)) |> fun f k hk => (f k hk).imp id (fun h => Nat.le_trans U2.size h))
    have offr := HOR.out.upd U2 (bk_moved (Moved.same hm2 (w := w2)) |> fun f k hk => (f k hk).imp id (fun h => Nat.le_trans U2.size h))
    have hpp := HP1.out.pop H2 hh2 hp2 hq2
    have hfl := HP1.out.len
    have hff : 0 < ([] : List Int).length → nth ys 0 = nth ([] : List Int) 0 := fun hx => HP1.out.first hx
    have hn0 : ([] : List Int) = [] → nth ys 0 = 0 ∧ decide (0 < ys.length) = false := fun e => by
      rw [e] at hfl
      have : ys = [] := List.eq_nil_of_length_eq_zero (by simpa using hfl)
      rw [this]
      exact ⟨rfl, rfl⟩
    have hn1 : 0 < ([] : List Int).length → decide (0 < ys.length) = true ∧ nth ys 0 = nth ([] : List Int) 0 := fun hx => ⟨decide_eq_true (by omega), hff hx⟩
    have U4 : Upd (bk h v) w w2 := (HU1.out.mono (by simp)).trans U2
    have P3 : Pair w2 h v' zs (.slice p 0 c) ([] : List Int).tail := ⟨H2, hh2, hpp, tail_rises HP1.out.rises, offr⟩
    have hfo : FirstOk (nth ys 0) (decide (0 < ys.length)) ([] : List Int) := ⟨hn0, hn1⟩
    have HFO := Lib.hid hfo
    have HF := Lib.hid (And.intro P3 (And.intro (Moved.same (w := w) hm2) U4))
    clear c0 c1 H2 hh2 hp2 hq2 hm2 U2 offr hpp hfl hff hn0 hn1 hfo U4 P3
    generalize nth ys 0 = y0 at HFO ⊢
    generalize decide (0 < ys.length) = okb at HFO ⊢
    go_wp2_with fail
    refine (first_yes y0 okb _ ([] : List Int) w2 off2.lst HFO.out).mono ?_
    rintro e w3 ⟨rfl, rfl⟩
    clear off2
    go_wp2_with fail
    exact bodyPost_ret (v := .tuple #[(.slice p 0 c), .bool true]) (by simp [results, Try.results12, go_sem]) rfl ⟨⟨_, v', zs, _, rfl, HF.out.1, by simp; try omega, HF.out.2.1⟩, HF.out.2.2⟩
  · simp only [List.length_cons] at hlen hl
    have z1 : (1 : Int) ≤ (r.length : Int) + 1 := by omega
    have z2 : (0 : Int) < (r.length : Int) + 1 := by omega
    have z3 : (r.length : Int) + 1 ≤ (c : Int) := by
      obtain ⟨_, _, e, hv, _⟩ := P.off
      simp only [Value.slice.injEq] at e
      obtain ⟨_, _, rfl⟩ := e
      have := hv.le
      simp only [List.length_cons] at this
      omega
    have z4 : (1 : Int) ≤ (c : Int) := by omega
    by_cases hc1 : c = 1
    · subst hc1
      have offr0 : Off _ (.slice (some ⟨b, off, none⟩) r.length (1 - 1)) (x :: r).tail (bk h v) := P1.off.tail _ (.inr ⟨rfl, by simp⟩)
      have HP1 := Lib.hid P1
      have HOR := Lib.hid offr0
      clear P P1 hqb r1 U1 offr0
      go_enter Try.func12, Try.ntmps12
      go_wp2_with fail
      refine (pop_any false h v ys _ HP1.out.at_ HP1.out.heap).mono ?_
      rintro e w2 ⟨rfl, ⟨v', zs, H2, hh2, hp2, hq2, hm2⟩, U2⟩
      have off2 := HP1.out.off.upd U2 (bk_moved (Moved.same hm2 (w := w2)) |> fun f k hk => (f k hk).imp id (fun h => Nat.le_trans U2.size h))
      have offr := HOR.out.upd U2 (bk_moved (Moved.same hm2 (w := w2)) |> fun f k hk => (f k hk).imp id (fun h => Nat.le_trans U2.size h))
      have hpp := HP1.out.pop H2 hh2 hp2 hq2
      have hfl := HP1.out.len
      have hff : 0 < (x :: r).length → nth ys 0 = nth (x :: r) 0 := fun hx => HP1.out.first hx
      have hn0 : (x :: r) = [] → nth ys 0 = 0 ∧ decide (0 < ys.length) = false := fun e => by
        rw [e] at hfl
        have : ys = [] := List.eq_nil_of_length_eq_zero (by simpa using hfl)
        rw [this]
        exact ⟨rfl, rfl⟩
      have hn1 : 0 < (x :: r).length → decide (0 < ys.length) = true ∧ nth ys 0 = nth (x :: r) 0 := fun hx => ⟨decide_eq_true (by omega), hff hx⟩
      have U4 : Upd (bk h v) w w2 := (HU1.out.mono (by simp)).trans U2
      have P3 : Pair w2 h v' zs (.slice (some ⟨b, off, none⟩) r.length (1 - 1)) (x :: r).tail := ⟨H2, hh2, hpp, tail_rises HP1.out.rises, offr⟩
      have hfo : FirstOk (nth ys 0) (decide (0 < ys.length)) (x :: r) := ⟨hn0, hn1⟩
      have HFO := Lib.hid hfo
      have HF := Lib.hid (And.intro P3 (And.intro (Moved.same (w := w) hm2) U4))
      clear c0 c1 H2 hh2 hp2 hq2 hm2 U2 offr hpp hfl hff hn0 hn1 hfo U4 P3
      generalize nth ys 0 = y0 at HFO ⊢
      generalize decide (0 < ys.length) = okb at HFO ⊢
      go_wp2_with fail
      refine (first_yes y0 okb _ (x :: r) w2 off2.lst HFO.out).mono ?_
      rintro e w3 ⟨rfl, rfl⟩
      clear off2
      go_wp2_with fail
      exact bodyPost_ret (v := .tuple #[(.slice (some ⟨b, off, none⟩) r.length (1 - 1)), .bool true]) (by simp [results, Try.results12, go_sem]) rfl ⟨⟨_, v', zs, _, rfl, HF.out.1, by simp; try omega, HF.out.2.1⟩, HF.out.2.2⟩
    · skip
      have offr0 : Off _ (.slice (some ⟨b, off + 1, none⟩) r.length (c - 1)) (x :: r).tail (bk h v) := P1.off.tail _ (.inl rfl)
      have HP1 := Lib.hid P1
      have HOR := Lib.hid offr0
      clear P P1 hqb r1 U1 offr0
      go_enter Try.func12, Try.ntmps12
      go_wp2_with fail
      refine (pop_any false h v ys _ HP1.out.at_ HP1.out.heap).mono ?_
      rintro e w2 ⟨rfl, ⟨v', zs, H2, hh2, hp2, hq2, hm2⟩, U2⟩
      have off2 := HP1.out.off.upd U2 (bk_moved (Moved.same hm2 (w := w2)) |> fun f k hk => (f k hk).imp id (fun h => Nat.le_trans U2.size h))
      have offr := HOR.out.upd U2 (bk_moved (Moved.same hm2 (w := w2)) |> fun f k hk => (f k hk).imp id (fun h => Nat.le_trans U2.size h))
      have hpp := HP1.out.pop H2 hh2 hp2 hq2
      have hfl := HP1.out.len
      have hff : 0 < (x :: r).length → nth ys 0 = nth (x :: r) 0 := fun hx => HP1.out.first hx
      have hn0 : (x :: r) = [] → nth ys 0 = 0 ∧ decide (0 < ys.length) = false := fun e => by
        rw [e] at hfl
        have : ys = [] := List.eq_nil_of_length_eq_zero (by simpa using hfl)
        rw [this]
        exact ⟨rfl, rfl⟩
      have hn1 : 0 < (x :: r).length → decide (0 < ys.length) = true ∧ nth ys 0 = nth (x :: r) 0 := fun hx => ⟨decide_eq_true (by omega), hff hx⟩
      have U4 : Upd (bk h v) w w2 := (HU1.out.mono (by simp)).trans U2
      have P3 : Pair w2 h v' zs (.slice (some ⟨b, off + 1, none⟩) r.length (c - 1)) (x :: r).tail := ⟨H2, hh2, hpp, tail_rises HP1.out.rises, offr⟩
      have hfo : FirstOk (nth ys 0) (decide (0 < ys.length)) (x :: r) := ⟨hn0, hn1⟩
      have HFO := Lib.hid hfo
      have HF := Lib.hid (And.intro P3 (And.intro (Moved.same (w := w) hm2) U4))
      clear c0 c1 H2 hh2 hp2 hq2 hm2 U2 offr hpp hfl hff hn0 hn1 hfo U4 P3
      generalize nth ys 0 = y0 at HFO ⊢
      generalize decide (0 < ys.length) = okb at HFO ⊢
      go_wp2_with fail
      refine (first_yes y0 okb _ (x :: r) w2 off2.lst HFO.out).mono ?_
      rintro e w3 ⟨rfl, rfl⟩
      clear off2
      go_wp2_with fail
      exact bodyPost_ret (v := .tuple #[(.slice (some ⟨b, off + 1, none⟩) r.length (c - 1)), .bool true]) (by simp [results, Try.results12, go_sem]) rfl ⟨⟨_, v', zs, _, rfl, HF.out.1, by simp; try omega, HF.out.2.1⟩, HF.out.2.2⟩

set_option maxRecDepth 100000 in
set_option maxHeartbeats 1000000 in
theorem step_swapin (h : Nat) (v : Value) (ys : List Int) (lv : Value) (xs : List Int) (n : Int) (w : World) (P : Pair w h v ys lv xs) (hl : xs.length ≤ 100000) :
    Calls Try.prog 12 #[.pointer (some ⟨h, 0, none⟩), lv, .agg #[.int .i64 3, .int .i64 n]] w (Stepped h v xs w) := by
  have hlen := P.len
  have U1 : Upd [] w (w.alloc (.cells #[.int .i64 3, .int .i64 n] 30)) := (Upd.refl [] w).alloc _
  have P1 := P.same U1
  have r1 := IsRow.new w [.int .i64 3, .int .i64 n] 30
  have hqb : w.heap.size ∉ bk h v := fun e => by have := P.at_.lt _ e; omega
  have HQB := Lib.hid hqb
  have HR1 := Lib.hid r1
  have HU1 := Lib.hid U1
  have c0 := r1.cell 0
  have c1 := r1.cell 1
  simp only [List.getElem?_cons_zero, List.getElem?_cons_succ] at c0 c1
  rcases rest_cases xs lv w _ P.off with ⟨rfl, p, c, rfl⟩ | ⟨x, r, b, off, c, rfl, rfl, hc⟩
  · have offr0 : Off _ (.slice p 0 c) ([] : List Int).tail (bk h v) := P1.off
    have HP1 := Lib.hid P1
    have HOR := Lib.hid offr0
    clear P P1 hqb r1 U1 offr0
    go_enter Try.func12, Try.ntmps12
    go_wp2_with fail
    refine (swapin_any false h v ys n _ HP1.out.at_ HP1.out.heap (by omega)).mono ?_
    rintro e w2 ⟨rfl, ⟨v', zs, H2, hh2, hp2, hq2, hm2⟩, U2⟩
    have rw2 := HR1.out.upd U2 HQB.out
    have c2 := rw2.cell 1
    simp only [List.getElem?_cons_zero, List.getElem?_cons_succ] at c2
    have off2 := HP1.out.off.upd U2 (bk_moved hm2)
    have offr := HOR.out.upd U2 (bk_moved hm2)
    have hfl := HP1.out.len
    have hff : 0 < ([] : List Int).length → nth ys 0 = nth ([] : List Int) 0 := fun hx => HP1.out.first hx
    have hpp := put_tail_perm HP1.out.perm hff hp2 hq2
    have hn0 : ([] : List Int) = [] → nth ys 0 = 0 ∧ decide (0 < ys.length) = false := fun e => by
      rw [e] at hfl
      have : ys = [] := List.eq_nil_of_length_eq_zero (by simpa using hfl)
      rw [this]
      exact ⟨rfl, rfl⟩
    have hn1 : 0 < ([] : List Int).length → decide (0 < ys.length) = true ∧ nth ys 0 = nth ([] : List Int) 0 := fun hx => ⟨decide_eq_true (by omega), hff hx⟩
    have hfo : FirstOk (nth ys 0) (decide (0 < ys.length)) ([] : List Int) := ⟨hn0, hn1⟩
    have HFO := Lib.hid hfo
    clear c0 c1 hfl hff hn0 hn1 hfo
    generalize nth ys 0 = y0 at HFO hp2 ⊢
    generalize decide (0 < ys.length) = okb at HFO ⊢
    go_wp2_with fail
    refine (put_any _ ([] : List Int).tail n w2 offr.lst (by simp <;> omega)).mono ?_
    rintro e w3 ⟨⟨r3, rfl, ho3⟩, U3⟩
    have off3 := off2.same U3
    have P3 : Pair w3 h v' zs r3 (put ([] : List Int).tail n) := ⟨H2.upd U3 (by simp), hh2, hpp, put_rises (tail_rises HP1.out.rises) n, ho3.off H2.lt⟩
    have U4 : Upd (bk h v) w w3 := ((HU1.out.mono (by simp)).trans U2).trans (U3.mono (by simp))
    have HF := Lib.hid (And.intro P3 (And.intro (hm2.trans_new HU1.out.size) U4))
    clear c2 off2 offr rw2 H2 hh2 hp2 hq2 hm2 U2 U3 ho3 P3 U4 hpp
    go_wp2_with fail
    refine (first_yes y0 okb _ ([] : List Int) w3 off3.lst HFO.out).mono ?_
    rintro e w4 ⟨rfl, rfl⟩
    clear off3
    go_wp2_with fail
    exact bodyPost_ret (v := .tuple #[r3, .bool true]) (by simp [results, Try.results12, go_sem]) rfl ⟨⟨_, v', zs, _, rfl, HF.out.1, by rw [put_len]; simp; try omega, HF.out.2.1⟩, HF.out.2.2⟩
  · simp only [List.length_cons] at hlen hl
    have z1 : (1 : Int) ≤ (r.length : Int) + 1 := by omega
    have z2 : (0 : Int) < (r.length : Int) + 1 := by omega
    have z3 : (r.length : Int) + 1 ≤ (c : Int) := by
      obtain ⟨_, _, e, hv, _⟩ := P.off
      simp only [Value.slice.injEq] at e
      obtain ⟨_, _, rfl⟩ := e
      have := hv.le
      simp only [List.length_cons] at this
      omega
    have z4 : (1 : Int) ≤ (c : Int) := by omega
    by_cases hc1 : c = 1
    · subst hc1
      have offr0 : Off _ (.slice (some ⟨b, off, none⟩) r.length (1 - 1)) (x :: r).tail (bk h v) := P1.off.tail _ (.inr ⟨rfl, by simp⟩)
      have HP1 := Lib.hid P1
      have HOR := Lib.hid offr0
      clear P P1 hqb r1 U1 offr0
      go_enter Try.func12, Try.ntmps12
      go_wp2_with fail
      refine (swapin_any false h v ys n _ HP1.out.at_ HP1.out.heap (by omega)).mono ?_
      rintro e w2 ⟨rfl, ⟨v', zs, H2, hh2, hp2, hq2, hm2⟩, U2⟩
      have rw2 := HR1.out.upd U2 HQB.out
      have c2 := rw2.cell 1
      simp only [List.getElem?_cons_zero, List.getElem?_cons_succ] at c2
      have off2 := HP1.out.off.upd U2 (bk_moved hm2)
      have offr := HOR.out.upd U2 (bk_moved hm2)
      have hfl := HP1.out.len
      have hff : 0 < (x :: r).length → nth ys 0 = nth (x :: r) 0 := fun hx => HP1.out.first hx
      have hpp := put_tail_perm HP1.out.perm hff hp2 hq2
      have hn0 : (x :: r) = [] → nth ys 0 = 0 ∧ decide (0 < ys.length) = false := fun e => by
        rw [e] at hfl
        have : ys = [] := List.eq_nil_of_length_eq_zero (by simpa using hfl)
        rw [this]
        exact ⟨rfl, rfl⟩
      have hn1 : 0 < (x :: r).length → decide (0 < ys.length) = true ∧ nth ys 0 = nth (x :: r) 0 := fun hx => ⟨decide_eq_true (by omega), hff hx⟩
      have hfo : FirstOk (nth ys 0) (decide (0 < ys.length)) (x :: r) := ⟨hn0, hn1⟩
      have HFO := Lib.hid hfo
      clear c0 c1 hfl hff hn0 hn1 hfo
      generalize nth ys 0 = y0 at HFO hp2 ⊢
      generalize decide (0 < ys.length) = okb at HFO ⊢
      go_wp2_with fail
      refine (put_any _ (x :: r).tail n w2 offr.lst (by simp <;> omega)).mono ?_
      rintro e w3 ⟨⟨r3, rfl, ho3⟩, U3⟩
      have off3 := off2.same U3
      have P3 : Pair w3 h v' zs r3 (put (x :: r).tail n) := ⟨H2.upd U3 (by simp), hh2, hpp, put_rises (tail_rises HP1.out.rises) n, ho3.off H2.lt⟩
      have U4 : Upd (bk h v) w w3 := ((HU1.out.mono (by simp)).trans U2).trans (U3.mono (by simp))
      have HF := Lib.hid (And.intro P3 (And.intro (hm2.trans_new HU1.out.size) U4))
      clear c2 off2 offr rw2 H2 hh2 hp2 hq2 hm2 U2 U3 ho3 P3 U4 hpp
      go_wp2_with fail
      refine (first_yes y0 okb _ (x :: r) w3 off3.lst HFO.out).mono ?_
      rintro e w4 ⟨rfl, rfl⟩
      clear off3
      go_wp2_with fail
      exact bodyPost_ret (v := .tuple #[r3, .bool true]) (by simp [results, Try.results12, go_sem]) rfl ⟨⟨_, v', zs, _, rfl, HF.out.1, by rw [put_len]; simp; try omega, HF.out.2.1⟩, HF.out.2.2⟩
    · skip
      have offr0 : Off _ (.slice (some ⟨b, off + 1, none⟩) r.length (c - 1)) (x :: r).tail (bk h v) := P1.off.tail _ (.inl rfl)
      have HP1 := Lib.hid P1
      have HOR := Lib.hid offr0
      clear P P1 hqb r1 U1 offr0
      go_enter Try.func12, Try.ntmps12
      go_wp2_with fail
      refine (swapin_any false h v ys n _ HP1.out.at_ HP1.out.heap (by omega)).mono ?_
      rintro e w2 ⟨rfl, ⟨v', zs, H2, hh2, hp2, hq2, hm2⟩, U2⟩
      have rw2 := HR1.out.upd U2 HQB.out
      have c2 := rw2.cell 1
      simp only [List.getElem?_cons_zero, List.getElem?_cons_succ] at c2
      have off2 := HP1.out.off.upd U2 (bk_moved hm2)
      have offr := HOR.out.upd U2 (bk_moved hm2)
      have hfl := HP1.out.len
      have hff : 0 < (x :: r).length → nth ys 0 = nth (x :: r) 0 := fun hx => HP1.out.first hx
      have hpp := put_tail_perm HP1.out.perm hff hp2 hq2
      have hn0 : (x :: r) = [] → nth ys 0 = 0 ∧ decide (0 < ys.length) = false := fun e => by
        rw [e] at hfl
        have : ys = [] := List.eq_nil_of_length_eq_zero (by simpa using hfl)
        rw [this]
        exact ⟨rfl, rfl⟩
      have hn1 : 0 < (x :: r).length → decide (0 < ys.length) = true ∧ nth ys 0 = nth (x :: r) 0 := fun hx => ⟨decide_eq_true (by omega), hff hx⟩
      have hfo : FirstOk (nth ys 0) (decide (0 < ys.length)) (x :: r) := ⟨hn0, hn1⟩
      have HFO := Lib.hid hfo
      clear c0 c1 hfl hff hn0 hn1 hfo
      generalize nth ys 0 = y0 at HFO hp2 ⊢
      generalize decide (0 < ys.length) = okb at HFO ⊢
      go_wp2_with fail
      refine (put_any _ (x :: r).tail n w2 offr.lst (by simp <;> omega)).mono ?_
      rintro e w3 ⟨⟨r3, rfl, ho3⟩, U3⟩
      have off3 := off2.same U3
      have P3 : Pair w3 h v' zs r3 (put (x :: r).tail n) := ⟨H2.upd U3 (by simp), hh2, hpp, put_rises (tail_rises HP1.out.rises) n, ho3.off H2.lt⟩
      have U4 : Upd (bk h v) w w3 := ((HU1.out.mono (by simp)).trans U2).trans (U3.mono (by simp))
      have HF := Lib.hid (And.intro P3 (And.intro (hm2.trans_new HU1.out.size) U4))
      clear c2 off2 offr rw2 H2 hh2 hp2 hq2 hm2 U2 U3 ho3 P3 U4 hpp
      go_wp2_with fail
      refine (first_yes y0 okb _ (x :: r) w3 off3.lst HFO.out).mono ?_
      rintro e w4 ⟨rfl, rfl⟩
      clear off3
      go_wp2_with fail
      exact bodyPost_ret (v := .tuple #[r3, .bool true]) (by simp [results, Try.results12, go_sem]) rfl ⟨⟨_, v', zs, _, rfl, HF.out.1, by rw [put_len]; simp; try omega, HF.out.2.1⟩, HF.out.2.2⟩

set_option maxRecDepth 100000 in
set_option maxHeartbeats 1000000 in
theorem step_other (h : Nat) (v : Value) (ys : List Int) (lv : Value) (xs : List Int) (k : Int) (n : Int) (w : World) (hk1 : (k == 1) = false) (hk2 : (k == 2) = false) (hk3 : (k == 3) = false) (P : Pair w h v ys lv xs) (hl : xs.length ≤ 100000) :
    Calls Try.prog 12 #[.pointer (some ⟨h, 0, none⟩), lv, .agg #[.int .i64 k, .int .i64 n]] w (Stepped h v xs w) := by
  have hlen := P.len
  have U1 : Upd [] w (w.alloc (.cells #[.int .i64 k, .int .i64 n] 30)) := (Upd.refl [] w).alloc _
  have P1 := P.same U1
  have r1 := IsRow.new w [.int .i64 k, .int .i64 n] 30
  have hqb : w.heap.size ∉ bk h v := fun e => by have := P.at_.lt _ e; omega
  have HQB := Lib.hid hqb
  have HR1 := Lib.hid r1
  have HU1 := Lib.hid U1
  have c0 := r1.cell 0
  have c1 := r1.cell 1
  simp only [List.getElem?_cons_zero, List.getElem?_cons_succ] at c0 c1
  rcases rest_cases xs lv w _ P.off with ⟨rfl, p, c, rfl⟩ | ⟨x, r, b, off, c, rfl, rfl, hc⟩
  · have offr0 : Off _ (.slice p 0 c) ([] : List Int).tail (bk h v) := P1.off
    have HP1 := Lib.hid P1
    have HOR := Lib.hid offr0
    clear P P1 hqb r1 U1 offr0
    go_enter Try.func12, Try.ntmps12
    go_wp2_with fail
    exact bodyPost_ret (v := .tuple #[.slice p 0 c, .bool true]) (by simp [results, Try.results12, go_sem]) rfl ⟨⟨_, v, ys, _, rfl, HP1.out, by simp, .inl rfl⟩, HU1.out.mono (by simp)⟩
  · simp only [List.length_cons] at hlen hl
    have z1 : (1 : Int) ≤ (r.length : Int) + 1 := by omega
    have z2 : (0 : Int) < (r.length : Int) + 1 := by omega
    have z3 : (r.length : Int) + 1 ≤ (c : Int) := by
      obtain ⟨_, _, e, hv, _⟩ := P.off
      simp only [Value.slice.injEq] at e
      obtain ⟨_, _, rfl⟩ := e
      have := hv.le
      simp only [List.length_cons] at this
      omega
    have z4 : (1 : Int) ≤ (c : Int) := by omega
    by_cases hc1 : c = 1
    · subst hc1
      have offr0 : Off _ (.slice (some ⟨b, off, none⟩) r.length (1 - 1)) (x :: r).tail (bk h v) := P1.off.tail _ (.inr ⟨rfl, by simp⟩)
      have HP1 := Lib.hid P1
      have HOR := Lib.hid offr0
      clear P P1 hqb r1 U1 offr0
      go_enter Try.func12, Try.ntmps12
      go_wp2_with fail
      exact bodyPost_ret (v := .tuple #[(.slice (some ⟨b, off, none⟩) (r.length + 1) 1), .bool true]) (by simp [results, Try.results12, go_sem]) rfl ⟨⟨_, v, ys, _, rfl, HP1.out, by simp, .inl rfl⟩, HU1.out.mono (by simp)⟩
    · skip
      have offr0 : Off _ (.slice (some ⟨b, off + 1, none⟩) r.length (c - 1)) (x :: r).tail (bk h v) := P1.off.tail _ (.inl rfl)
      have HP1 := Lib.hid P1
      have HOR := Lib.hid offr0
      clear P P1 hqb r1 U1 offr0
      go_enter Try.func12, Try.ntmps12
      go_wp2_with fail
      exact bodyPost_ret (v := .tuple #[(.slice (some ⟨b, off, none⟩) (r.length + 1) c), .bool true]) (by simp [results, Try.results12, go_sem]) rfl ⟨⟨_, v, ys, _, rfl, HP1.out, by simp, .inl rfl⟩, HU1.out.mono (by simp)⟩

theorem perm538 : ([5, 3, 8] : List Int).Perm [3, 5, 8] := by decide

set_option maxHeartbeats 1000000 in
theorem awake_any (w : World) : Calls Try.prog 7 #[] w fun e w' => e = .returned (.bool true) ∧ Upd [] w w' := by
  go_enter Try.func7, Try.ntmps7
  go_wp2_with fail
  have l1 := lst_new w [5, 3, 8] 3 rfl (by decide)
  have U1 : Upd [] w (w.alloc (.cells (ints [5, 3, 8]).toArray 3)) := (Upd.refl [] _).alloc _
  change Lst (w.alloc (.cells #[.int .i64 5, .int .i64 3, .int .i64 8] 3)) _ _ at l1
  change Upd [] w (w.alloc (.cells #[.int .i64 5, .int .i64 3, .int .i64 8] 3)) at U1
  have hwb : w.heap.size ≤ (w.alloc (.cells #[.int .i64 5, .int .i64 3, .int .i64 8] 3)).heap.size := U1.size
  generalize w.alloc (.cells #[.int .i64 5, .int .i64 3, .int .i64 8] 3) = w1 at l1 U1 hwb ⊢
  refine (new_any false _ [5, 3, 8] w1 l1 (by decide)).mono ?_
  rintro e w2 ⟨h, v, ys, rfl, H2, hh2, hp2, U2, hb2, hg2⟩
  have hS : ∀ k, k ∈ bk h v → w.heap.size ≤ k := by
    intro k hk
    rcases List.mem_cons.1 hk with e | e
    · omega
    · have := hg2 k (by simpa using e); omega
  have hp3 := hp2.trans perm538
  have h3 : nth ys 0 = 3 := heap_first hh2 hp3 (by unfold Rises; decide)
  have hl3 : ys.length = 3 := hp3.length_eq
  have U3 := U1.trans U2
  have HS := Lib.hid hS
  clear l1 U1 U2 hp2 hS hb2 hg2
  go_wp2_with fail
  refine (pop_any false h v ys w2 H2 hh2).mono ?_
  rintro e w3 ⟨rfl, ⟨v3, zs, H3, hh3, hq3, _, hm3⟩, U4⟩
  have hz3 := (hq3 (by omega)).trans hp3
  rw [h3] at hz3
  have hzs := List.Perm.cons_inv hz3
  have h5 : nth zs 0 = 5 := heap_first hh3 hzs (by unfold Rises; decide)
  have hl5 : zs.length = 2 := hzs.length_eq
  have hd : decide (0 < ys.length) = true := decide_eq_true (by omega)
  rw [h3, hd]
  have hbk : bk h v3 = bk h v := by unfold bk; rw [hm3]
  have U5 : Upd (bk h v) w w3 := (U3.mono (by simp)).trans U4
  rw [← hbk] at U5 HS
  clear H2 hh2 hp3 h3 hl3 U3 U4 hq3 hz3 hd hbk hm3
  go_wp2_with fail
  refine (swapin_any false h v3 zs 1 w3 H3 hh3 (by omega)).mono ?_
  rintro e w4 ⟨rfl, ⟨v4, us, H4, hh4, hq4, _, hm4⟩, U6⟩
  have hu := (hq4 (by omega)).trans (List.Perm.cons 1 hzs)
  rw [h5] at hu
  have hus := List.Perm.cons_inv (hu.trans (List.Perm.swap 5 1 [8]))
  have h1 : nth us 0 = 1 := heap_first hh4 hus (by unfold Rises; decide)
  have hl1 : us.length = 2 := hus.length_eq
  have hd : decide (0 < zs.length) = true := decide_eq_true (by omega)
  rw [h5, hd]
  have U7 : Upd [] w w4 := (U5.trans U6).shrink (fun k hk hlt => by have := HS.out k hk; omega)
  have hck : heapB false us = true := heapB_iff.2 hh4
  have hd2 : decide (0 < us.length) = true := decide_eq_true (by omega)
  have hlen : Ending.returned (.int .i64 (us.length : Int)) = .returned (.int .i64 2) := by rw [hl1]; rfl
  clear H3 hh3 h5 hl5 U5 U6 hq4 hm4 hu hus hzs hd HS
  go_wp2_with fail
  refine (first_any false h v4 us w4 H4).mono ?_
  rintro e w5 ⟨rfl, rfl⟩
  rw [h1, hd2]
  go_wp2_with fail
  refine (len_any false h v4 us w5 H4).mono ?_
  rintro e w6 ⟨rfl, rfl⟩
  rw [hlen]
  clear h1 hd2 hlen hl1
  go_wp2_with fail
  refine (check_any false h v4 us w6 H4).mono ?_
  rintro e w7 ⟨rfl, U8⟩
  rw [hck]
  have U9 := U7.trans U8
  clear H4 hck U7 U8
  go_wp2_with fail
  go_ret
  exact ⟨rfl, U9⟩

end Go.Proofs.Ytgeaboahccfdcaa
