/- The reference's Put; first; step; awake. -/
import Derived.Test.YtgeaboahccfdcaaE
namespace Go.Proofs.Ytgeaboahccfdcaa
open Go.RowKit

set_option maxHeartbeats 1000000 in
theorem put_any (v : Value) (xs : List Int) (n : Int) (w : World) (hx : Lst w v xs) (hl : xs.length ≤ 1000000) :
    Calls Try.prog 10 #[v, .int .i64 n] w fun e w' => (∃ r, e = .returned r ∧ Own w' w.heap.size r (put xs n)) ∧ Upd [] w w' := by
  obtain ⟨p, c, rfl, hv⟩ := hx
  have HV := Lib.hid hv
  clear hv
  go_enter Try.func10, Try.ntmps10
  go_wp2_with fail
  go_loopw [5, 6, 7] (fun u5 u6 u7 wr => ∃ j : Nat, j ≤ xs.length ∧ u7 = .int .i64 j ∧ u6 = .bool (anyGe xs n j) ∧ Own wr w.heap.size u5 (putTo xs n j) ∧ Upd [] w wr) (fun _ _ u7 _ => xs.length - (intOf u7).toNat)
  case atStart => exact ⟨0, Nat.zero_le _, rfl, by simp [anyGe], by simp [putTo, anyGe]; exact Own.nil _ _, Upd.refl _ _⟩
  case round =>
    obtain ⟨j, hj, rfl, rfl, hown, U0⟩ := hrel
    have HO := Lib.hid hown
    have hol := putTo_len xs n j hj
    clear hown
    by_cases hjl : j < xs.length
    · obtain ⟨a, ha⟩ : ∃ a, xs[j]? = some a := ⟨xs[j], List.getElem?_eq_getElem hjl⟩
      obtain ⟨bx, ox, rfl, hbx, hcx⟩ := (HV.out.upd U0).cells j a ha
      have ca := hcx j a ha
      have hps := putTo_succ (n := n) ha
      have has := anyGe_succ (n := n) ha
      generalize hb : anyGe xs n j = b at hps has
      have HPS := Lib.hid hps
      have HAS := Lib.hid has
      have HA := Lib.hid ha
      clear hcx ha hb hps has
      cases b with
      | true =>
        go_wp2_with (at_builtin; refine wpList_append_int (u := a) rfl _ _ rfl w _ _ _ 1 (by rfl) (by rfl) (cell_new _ _ _) (HO.out.kept ((Upd.refl [] _).alloc _) (by simp)) (U0.alloc _) (by simp <;> omega) ?_)
        intro v2 w2 ho2 U2
        go_wp2_with fail
        go_roundw
        case rel => exact ⟨j + 1, hjl, by go_num, by rw [HAS.out]; rfl, by rw [HPS.out]; exact ho2, U2⟩
        case measure => simp [intOf]; omega
      | false =>
        by_cases hge : n ≤ a
        · have ht : decide (n ≤ a) = true := decide_eq_true hge
          have HGE := Lib.hid hge
          clear hge
          go_wp2_with (at_builtin; refine wpList_append_int (u := n) rfl _ _ rfl w _ _ _ 1 (by rfl) (by rfl) (cell_new _ _ _) (HO.out.kept ((Upd.refl [] _).alloc _) (by simp)) (U0.alloc _) (by simp <;> omega) ?_)
          intro v2 w2 ho2 U2
          obtain ⟨b', o', he, _, hc'⟩ := (HV.out.upd U2).cells j a HA.out
          cases he
          have ca2 := hc' j a HA.out
          have HO2 := Lib.hid ho2
          clear hc' ho2 U0 ca HO
          go_wp2_with (at_builtin; refine wpList_append_int (u := a) rfl _ _ rfl w _ _ _ 1 (by rfl) (by rfl) (cell_new _ _ _) (HO2.out.kept ((Upd.refl [] _).alloc _) (by simp)) (U2.alloc _) (by simp <;> omega) ?_)
          intro v3 w3 ho3 U3
          go_wp2_with fail
          go_roundw
          case rel => exact ⟨j + 1, hjl, by go_num, by rw [HAS.out, decide_eq_true HGE.out]; rfl, by rw [HPS.out, if_neg (by simp), if_pos HGE.out]; simpa using ho3, U3⟩
          case measure => simp [intOf]; omega
        · have ht : decide (n ≤ a) = false := decide_eq_false hge
          have HGE := Lib.hid (Int.not_le.1 hge)
          clear hge
          go_wp2_with (at_builtin; refine wpList_append_int (u := a) rfl _ _ rfl w _ _ _ 1 (by rfl) (by rfl) (cell_new _ _ _) (HO.out.kept ((Upd.refl [] _).alloc _) (by simp)) (U0.alloc _) (by simp <;> omega) ?_)
          intro v2 w2 ho2 U2
          go_wp2_with fail
          go_roundw
          case rel => exact ⟨j + 1, hjl, by go_num, by rw [HAS.out, decide_eq_false (Int.not_le.2 HGE.out)]; rfl, by rw [HPS.out, if_neg (by simp), if_neg (Int.not_le.2 HGE.out)]; exact ho2, U2⟩
          case measure => simp [intOf]; omega
    · have hje : j = xs.length := by omega
      subst hje
      have hfin : put xs n = if anyGe xs n xs.length = true then putTo xs n xs.length else putTo xs n xs.length ++ [n] := by
        unfold putTo anyGe
        rw [List.take_length]
        cases hb : (xs.any fun a => decide (a ≥ n)) with
        | true => simp
        | false => simp [put_end xs n hb]
      generalize hb : anyGe xs n xs.length = b at hfin
      have HF := Lib.hid hfin
      clear hb hfin
      cases b with
      | true =>
        go_wp2_with fail
        go_ret
        exact ⟨⟨_, rfl, by rw [HF.out]; exact HO.out⟩, U0⟩
      | false =>
        go_wp2_with (at_builtin; refine wpList_append_int (u := n) rfl _ _ rfl w _ _ _ 1 (by rfl) (by rfl) (cell_new _ _ _) (HO.out.kept ((Upd.refl [] _).alloc _) (by simp)) (U0.alloc _) (by simp <;> omega) ?_)
        intro v2 w2 ho2 U2
        go_wp2_with fail
        go_ret
        exact ⟨⟨_, rfl, by rw [HF.out]; exact ho2⟩, U2⟩

/-- A list that lies apart from those blocks. -/
def Off (w : World) (v : Value) (xs : List Int) (S : List Nat) : Prop := ∃ p c, v = .slice p xs.length c ∧ View w p c xs ∧ ∀ b off, p = some ⟨b, off, none⟩ → 0 < xs.length → b ∉ S

theorem Off.lst {w v xs S} (h : Off w v xs S) : Lst w v xs := by
  obtain ⟨p, c, e, hv, _⟩ := h
  exact ⟨p, c, e, hv⟩

theorem View.block {w : World} {p : Option Addr} {c : Nat} {xs : List Int} (h : View w p c xs) (hx : 0 < xs.length) : ∃ b off, p = some ⟨b, off, none⟩ ∧ b < w.heap.size := by
  obtain ⟨b, off, h1, h2, _⟩ := h.cells 0 _ (List.getElem?_eq_getElem hx)
  exact ⟨b, off, h1, h2⟩

theorem View.updS {w w' : World} {p : Option Addr} {c : Nat} {xs : List Int} {S : List Nat} (h : View w p c xs) (u : Upd S w w') (hn : ∀ b off, p = some ⟨b, off, none⟩ → 0 < xs.length → b ∉ S) : View w' p c xs := by
  refine ⟨h.le, h.max, h.nil, fun i x hx => ?_⟩
  obtain ⟨b, off, h1, h2, h3⟩ := h.cells i x hx
  have hpos : 0 < xs.length := by have := (List.getElem?_eq_some_iff.1 hx).1; omega
  exact ⟨b, off, h1, Nat.lt_of_lt_of_le h2 u.size, fun j y hj => (u.cell (p := ⟨b, off + j, none⟩) h2 (hn b off h1 hpos)).trans (h3 j y hj)⟩

theorem Off.upd {w w' : World} {v : Value} {xs : List Int} {S T : List Nat} (h : Off w v xs S) (u : Upd S w w') (hT : ∀ k, k ∈ T → k ∈ S ∨ w.heap.size ≤ k) : Off w' v xs T := by
  obtain ⟨p, c, rfl, hv, hn⟩ := h
  refine ⟨p, c, rfl, hv.updS u hn, fun b off e hx hb => ?_⟩
  rcases hT b hb with h1 | h1
  · exact hn b off e hx h1
  · obtain ⟨b', off', e', hlt⟩ := hv.block hx
    rw [e] at e'
    cases e'
    omega

theorem Off.same {w w' : World} {v : Value} {xs : List Int} {S : List Nat} (h : Off w v xs S) (u : Upd [] w w') : Off w' v xs S := by
  obtain ⟨p, c, rfl, hv, hn⟩ := h
  exact ⟨p, c, rfl, hv.upd u, hn⟩

theorem Own.off {w : World} {B : Nat} {v : Value} {xs : List Int} {S : List Nat} (h : Own w B v xs) (hS : ∀ k, k ∈ S → k < B) : Off w v xs S := by
  obtain ⟨p, c, rfl, hv⟩ := h.view
  refine ⟨p, c, rfl, hv, fun b off e _ hb => ?_⟩
  have h1 := h.ge b off none e
  have h2 := hS b hb
  omega

theorem bk_moved {w : World} {h : Nat} {v v' : Value} (hm : Moved w v v') : ∀ k, k ∈ bk h v' → k ∈ bk h v ∨ w.heap.size ≤ k := by
  intro k hk
  unfold bk at hk ⊢
  rcases List.mem_cons.1 hk with e | e
  · exact .inl (by rw [e]; exact List.mem_cons_self)
  · rcases hm with hm | ⟨z, hz, hle⟩
    · rw [hm] at e; exact .inl (List.mem_cons_of_mem _ e)
    · rw [hz] at e
      have : k = z := by simpa using e
      exact .inr (by omega)

theorem HeapAt.lt {w : World} {t h v xs} (H : HeapAt w t h v xs) : ∀ k, k ∈ bk h v → k < w.heap.size := by
  intro k hk
  rcases List.mem_cons.1 hk with e | e
  · rw [e]; exact H.row.lt
  · exact (World.ownsRow.lt H.own k (by simpa using e)).2

theorem Moved.same {w : World} {v v' : Value} (h : v'.ownBlock = v.ownBlock) : Moved w v v' := .inl h

/-- That is the first of the list, or there is none. -/
def FirstOk (n : Int) (ok : Bool) (xs : List Int) : Prop := (xs = [] → n = 0 ∧ ok = false) ∧ (0 < xs.length → ok = true ∧ n = nth xs 0)

/-- 'first': yes. -/
theorem first_yes (n : Int) (ok : Bool) (v : Value) (xs : List Int) (w : World) (hx : Lst w v xs) (hf : FirstOk n ok xs) :
    Calls Try.prog 15 #[.int .i64 n, .bool ok, v] w fun e w' => e = .returned (.bool true) ∧ w' = w := by
  obtain ⟨h0, h1⟩ := hf
  obtain ⟨p, c, rfl, hv⟩ := hx
  cases xs with
  | nil =>
    obtain ⟨rfl, rfl⟩ := h0 rfl
    clear h0 h1 hv
    show Calls Try.prog 15 #[.int .i64 0, .bool false, .slice p 0 c] w _
    go_enter Try.func15, Try.ntmps15
    go_wp2
    go_ret
    exact ⟨rfl, rfl⟩
  | cons x r =>
    obtain ⟨rfl, hn⟩ := h1 (by simp)
    have hn2 : n = x := hn
    subst hn2
    obtain ⟨b, off, rfl, _, hc⟩ := hv.cells 0 n rfl
    have ca := hc 0 n rfl
    rw [Nat.add_zero] at ca
    have hz : (((n :: r).length : Int) == 0) = false := by simp only [beq_eq_false_iff_ne, ne_eq, List.length_cons]; omega
    have hz2 : (0 : Int) < ((n :: r).length : Int) := by simp only [List.length_cons]; omega
    generalize (n :: r).length = len at hz hz2 ⊢
    clear h0 h1 hc hv hn
    go_enter Try.func15, Try.ntmps15
    go_wp2
    go_ret
    exact ⟨ret_bool (by simp), rfl⟩

end Go.Proofs.Ytgeaboahccfdcaa
