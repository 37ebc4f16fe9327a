/- What Once and Sort tell, as lists in which each thing stands once. -/
import Derived.Test.YtpoogkgekeocbaaNMath
namespace Go.Proofs.Ytpoogkgekeocbaa

theorem sm40_iff {a b : Pt} : sm40 a b = true ↔ a = b := by unfold sm40; rw [beq_iff_eq]; exact ordP_eq
theorem sorted_le {t : Bool} {l : List Pt} (h : Sorted t l) {i j : Nat} {a b : Pt} (hij : i < j) (ha : l[i]? = some a) (hb : l[j]? = some b) : ¬ ltP t b a := by
  obtain ⟨hi, ea⟩ := List.getElem?_eq_some_iff.1 ha
  obtain ⟨hj, eb⟩ := List.getElem?_eq_some_iff.1 hb
  have := List.pairwise_iff_getElem.1 h i j hi hj hij
  rwa [ea, eb] at this
theorem nth_some {l : List Pt} {i : Nat} (h : i < l.length) : l[i]? = some (nth l i) := by unfold nth; rw [List.getElem?_eq_getElem h]; rfl

theorem heads_strict {t : Bool} {l : List Pt} (h : Sorted t l) : ∀ i, i ≤ l.length → Strict t (heads sm40 l i) ∧ ∀ x, x ∈ heads sm40 l i ↔ x ∈ l.take i
  | 0, _ => ⟨List.Pairwise.nil, fun x => by simp [heads]⟩
  | i + 1, hi => by
    obtain ⟨h1, h2⟩ := heads_strict h i (by omega)
    have hn := nth_some (show i < l.length by omega)
    have htk : l.take (i + 1) = l.take i ++ [nth l i] := by rw [List.take_add_one, hn]; rfl
    simp only [heads]
    by_cases hh : isHead sm40 l i = true
    · rw [if_pos hh, htk]
      refine ⟨List.pairwise_append.2 ⟨h1, List.pairwise_singleton _ _, fun a ha b hb => ?_⟩, fun x => by simp [h2]⟩
      simp at hb; subst hb
      have ha2 := (h2 a).1 ha
      obtain ⟨k, hk⟩ := List.mem_iff_getElem?.1 ha2
      have hki : k < i := by
        have := (List.getElem?_eq_some_iff.1 hk).1
        rw [List.length_take] at this; omega
      rw [List.getElem?_take_of_lt hki] at hk
      unfold isHead at hh
      rcases of_decide_eq_true hh with e | e
      · omega
      · have hp := nth_some (show i - 1 < l.length by omega)
        have hne : nth l (i - 1) ≠ nth l i := by
          intro e2
          rw [sm40_iff.2 e2] at e; cases e
        have l1 := sorted_le h (show i - 1 < i by omega) hp hn
        have l2 : ltP t (nth l (i - 1)) (nth l i) := by
          rcases ltP_tri t (nth l (i - 1)) (nth l i) with g | g | g
          · exact g
          · exact absurd g hne
          · exact absurd g l1
        by_cases e3 : k = i - 1
        · subst e3; rw [hp] at hk; cases hk; exact l2
        · have l3 := sorted_le h (show k < i - 1 by omega) hk hp
          rcases ltP_tri t a (nth l (i - 1)) with g | g | g
          · exact ltP_trans g l2
          · rw [g]; exact l2
          · exact absurd g l3
    · rw [if_neg hh, List.append_nil, htk]
      refine ⟨h1, fun x => ?_⟩
      rw [h2 x, List.mem_append, List.mem_singleton]
      constructor
      · exact fun hx => .inl hx
      · rintro (hx | hx)
        · exact hx
        · subst hx
          have hh2 : isHead sm40 l i = false := by simpa using hh
          unfold isHead at hh2
          have h3 := of_decide_eq_false hh2
          have hi0 : i ≠ 0 := fun e => h3 (.inl e)
          have h4 : nth l (i - 1) = nth l i := by
            refine sm40_iff.1 ?_
            cases e : sm40 (nth l (i - 1)) (nth l i) with
            | true => rfl
            | false => exact absurd (.inr e) h3
          rw [← h4]
          refine List.mem_iff_getElem?.2 ⟨i - 1, ?_⟩
          rw [List.getElem?_take_of_lt (by omega)]
          exact nth_some (by omega)

theorem heads_uniq {t : Bool} {l xs : List Pt} (h : Sorted t l) (hp : l.Perm xs) : heads sm40 l l.length = uniq t xs := by
  obtain ⟨h1, h2⟩ := heads_strict h l.length (Nat.le_refl _)
  refine eq_uniq h1 fun x => (h2 x).trans ?_
  rw [List.take_length]
  exact hp.mem_iff

theorem sorted_uniq {t t' : Bool} {l xs : List Pt} (h : Sorted t l) (hp : l.Perm (uniq t' xs)) : l = uniq t xs := by
  have hnd : l.Nodup := by
    rw [hp.nodup_iff]
    exact List.Pairwise.imp (fun hab e => by subst e; exact ltP_irrefl _ _ hab) (uniq_strict t' xs)
  refine eq_uniq ?_ fun x => hp.mem_iff.trans (uniq_mem t' xs x)
  refine List.Pairwise.imp (fun {a b} hab => ?_) (List.pairwise_and_iff.2 ⟨h, hnd⟩)
  rcases ltP_tri t a b with g | g | g
  · exact g
  · exact absurd g hab.2
  · exact absurd g hab.1

end Go.Proofs.Ytpoogkgekeocbaa
