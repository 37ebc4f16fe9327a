/- The rows of a list of points. -/
import Derived.Test.YtpoogkgekeocbaaR
namespace Go.Proofs.Ytpoogkgekeocbaa

def flat (qs : List RowT) : List Pt := qs.flatMap fun q => q.2.map fun x => (x, q.1)
structure Rows (U : List Pt) (qs : List RowT) : Prop where
  flat : flat qs = U
  ne : ∀ q ∈ qs, q.2 ≠ []
  up : qs.Pairwise fun a b => a.1 < b.1

theorem flat_append (a b : List RowT) : flat (a ++ b) = flat a ++ flat b := by unfold flat; rw [List.flatMap_append]
theorem flat_one (q : RowT) : flat [q] = q.2.map fun x => (x, q.1) := by unfold flat; simp
theorem mem_flat {qs : List RowT} {q : RowT} {x : Int} (hq : q ∈ qs) (hx : x ∈ q.2) : (x, q.1) ∈ flat qs :=
  List.mem_flatMap.2 ⟨q, hq, List.mem_map.2 ⟨x, hx, rfl⟩⟩

theorem Rows.nil : Rows [] [] := ⟨rfl, fun q hq => absurd hq (by simp), List.Pairwise.nil⟩

theorem strict_lt {t : Bool} {U : List Pt} (h : Strict t U) {i j : Nat} {a b : Pt} (hij : i < j) (ha : U[i]? = some a) (hb : U[j]? = some b) : ltP t a b := by
  obtain ⟨hi, ea⟩ := List.getElem?_eq_some_iff.1 ha
  obtain ⟨hj, eb⟩ := List.getElem?_eq_some_iff.1 hb
  have := List.pairwise_iff_getElem.1 h i j hi hj hij
  rwa [ea, eb] at this

/-- all of a piece have one Y -/
theorem Piece.same_y {U : List Pt} {t : Nat} {g : List Pt} (h : Piece sm27 U t g) : ∀ i, i < g.length → (nth U (t + i)).2 = (nth U t).2 := by
  intro i
  induction i with
  | zero => intro _; rfl
  | succ i ih =>
    intro hi
    have h1 := ih (by omega)
    have h2 := h.same (t + (i + 1)) (by omega) (by omega)
    unfold isHead at h2
    have h3 := of_decide_eq_false h2
    have h4 : sm27 (nth U (t + (i + 1) - 1)) (nth U (t + (i + 1))) = true := by
      cases e : sm27 (nth U (t + (i + 1) - 1)) (nth U (t + (i + 1))) with
      | true => rfl
      | false => exact absurd (.inr e) h3
    unfold sm27 at h4
    rw [show t + (i + 1) - 1 = t + i from by omega] at h4
    have h5 := eq_of_beq h4
    rw [← h5, h1]

theorem Piece.row {U : List Pt} {t : Nat} {g : List Pt} (h : Piece sm27 U t g) : (g.map (·.1)).map (fun x => (x, (nth U t).2)) = g := by
  rw [List.map_map]
  refine List.ext_getElem? fun i => ?_
  rw [List.getElem?_map]
  by_cases hi : i < g.length
  · have h1 := h.same_y i hi
    have h2 := h.at hi
    have hle := h.le
    rw [h2]
    have h3 : U[t + i]? = some (nth U (t + i)) := by unfold nth; rw [List.getElem?_eq_getElem (by omega)]; rfl
    rw [h3]
    show some ((nth U (t + i)).1, (nth U t).2) = some (nth U (t + i))
    rw [← h1]
  · rw [List.getElem?_eq_none (by omega)]; rfl

theorem Rows.next {U : List Pt} {t : Nat} {g : List Pt} {qs : List RowT} (h : Rows (U.take t) qs) (hs : Strict true U) (hp : Piece sm27 U t g) :
    Rows (U.take (t + g.length)) (qs ++ [((nth U t).2, g.map (·.1))]) := by
  have hg := hp.pos
  have hle := hp.le
  refine ⟨?_, ?_, ?_⟩
  · rw [flat_append, flat_one, h.flat]
    show U.take t ++ (g.map (·.1)).map (fun x => (x, (nth U t).2)) = _
    rw [hp.row, List.take_add, ← hp.eq]
  · intro q hq
    rcases List.mem_append.1 hq with e | e
    · exact h.ne q e
    · simp at e; subst e
      intro e2
      simp at e2
      rw [e2] at hg; simp at hg
  · refine List.pairwise_append.2 ⟨h.up, List.pairwise_singleton _ _, fun q hq b hb => ?_⟩
    simp at hb; subst hb
    show q.1 < (nth U t).2
    obtain ⟨x, hx⟩ := List.exists_mem_of_ne_nil _ (h.ne q hq)
    have hm := mem_flat hq hx
    rw [h.flat] at hm
    obtain ⟨i, hi⟩ := List.mem_iff_getElem?.1 hm
    have hit : i < t := by
      have := (List.getElem?_eq_some_iff.1 hi).1
      rw [List.length_take] at this; omega
    rw [List.getElem?_take_of_lt hit] at hi
    have ht : U[t]? = some (nth U t) := by unfold nth; rw [List.getElem?_eq_getElem (by omega)]; rfl
    have ht1 : U[t - 1]? = some (nth U (t - 1)) := by unfold nth; rw [List.getElem?_eq_getElem (by omega)]; rfl
    have l1 := strict_lt hs hit hi ht
    have l2 := strict_lt hs (show t - 1 < t by omega) ht1 ht
    have hh := hp.head
    unfold isHead at hh
    rcases of_decide_eq_true hh with e | e
    · omega
    · unfold sm27 at e
      have e2 : (nth U (t - 1)).2 ≠ (nth U t).2 := by simpa using e
      have l3 : (x, q.1) = nth U (t - 1) ∨ ltP true (x, q.1) (nth U (t - 1)) := by
        by_cases e3 : i = t - 1
        · subst e3; rw [ht1] at hi; exact .inl (Option.some.inj hi).symm
        · exact .inr (strict_lt hs (by omega) hi ht1)
      unfold ltP kd at l1 l2 l3
      simp only [if_true] at l1 l2 l3
      rcases l3 with l3 | l3
      · rw [← l3] at l2 e2
        simp at l2 e2
        omega
      · omega

end Go.Proofs.Ytpoogkgekeocbaa
