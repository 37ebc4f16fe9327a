/- How many rows there are; the place of a point. -/
import Derived.Test.YtpoogkgekeocbaaL
namespace Go.Proofs.Ytpoogkgekeocbaa

def isFirst (l : List Pt) (i : Nat) : Bool := (l.take i).all fun d => d.2 != (nth l i).2
def cnt (l : List Pt) : Nat → Nat
  | 0 => 0
  | i + 1 => cnt l i + if isFirst l i then 1 else 0
def fl (l : List Pt) : Nat → List Int
  | 0 => []
  | i + 1 => fl l i ++ if isFirst l i then [(nth l i).2] else []
theorem fl_len (l : List Pt) : ∀ i, (fl l i).length = cnt l i
  | 0 => rfl
  | i + 1 => by
    rw [fl, cnt, List.length_append, fl_len l i]
    split <;> rfl
theorem fl_mem (l : List Pt) : ∀ i, i ≤ l.length → (fl l i).Nodup ∧ ∀ y, y ∈ fl l i ↔ ∃ d, d ∈ l.take i ∧ d.2 = y
  | 0, _ => ⟨List.nodup_nil, fun y => by simp [fl]⟩
  | i + 1, hi => by
    obtain ⟨h1, h2⟩ := fl_mem l i (by omega)
    have hn := nth_some (show i < l.length by omega)
    have htk : l.take (i + 1) = l.take i ++ [nth l i] := by rw [List.take_add_one, hn]; rfl
    rw [fl, htk]
    by_cases hf : isFirst l i = true
    · rw [if_pos hf]
      refine ⟨List.nodup_append.2 ⟨h1, by simp, fun a ha b hb e => ?_⟩, fun y => ?_⟩
      · simp at hb
        subst hb
        obtain ⟨d, hd, e2⟩ := (h2 a).1 ha
        unfold isFirst at hf
        have := List.all_eq_true.1 hf d hd
        rw [bne_iff_ne] at this
        exact this (e2.trans e)
      · rw [List.mem_append, h2, List.mem_singleton]
        constructor
        · rintro (⟨d, hd, e⟩ | e)
          · exact ⟨d, List.mem_append_left _ hd, e⟩
          · exact ⟨nth l i, by simp, e.symm⟩
        · rintro ⟨d, hd, e⟩
          rcases List.mem_append.1 hd with hd | hd
          · exact .inl ⟨d, hd, e⟩
          · rw [List.mem_singleton.1 hd] at e
            exact .inr e.symm
    · rw [if_neg hf, List.append_nil]
      refine ⟨h1, fun y => (h2 y).trans ⟨fun ⟨d, hd, e⟩ => ⟨d, List.mem_append_left _ hd, e⟩, ?_⟩⟩
      rintro ⟨d, hd, e⟩
      rcases List.mem_append.1 hd with hd | hd
      · exact ⟨d, hd, e⟩
      · rw [List.mem_singleton.1 hd] at e
        unfold isFirst at hf
        rw [List.all_eq_true] at hf
        by_cases hex : ∃ d, d ∈ l.take i ∧ d.2 = (nth l i).2
        · obtain ⟨d', hd', e'⟩ := hex
          exact ⟨d', hd', e'.trans e⟩
        · refine absurd (fun d' hd' => ?_) hf
          rw [bne_iff_ne]
          exact fun e' => hex ⟨d', hd', e'⟩

theorem rows_count {U l : List Pt} {qs : List RowT} (h : Rows U qs) (hm : ∀ x, x ∈ l ↔ x ∈ U) : cnt l l.length = qs.length := by
  obtain ⟨h1, h2⟩ := fl_mem l l.length (Nat.le_refl _)
  have h3 : (qs.map (·.1)).Nodup := by
    refine List.Pairwise.imp (fun {a b} hab => Int.ne_of_lt hab) (List.pairwise_map.2 h.up)
  have h4 : (fl l l.length).Perm (qs.map (·.1)) := (List.perm_ext_iff_of_nodup h1 h3).2 fun y => by
    rw [h2, List.take_length, List.mem_map]
    constructor
    · rintro ⟨d, hd, e⟩
      have hd2 := (hm d).1 hd
      rw [← h.flat] at hd2
      obtain ⟨q, hq, hx⟩ := List.mem_flatMap.1 hd2
      obtain ⟨x, _, hx2⟩ := List.mem_map.1 hx
      exact ⟨q, hq, by rw [← e, ← hx2]⟩
    · rintro ⟨q, hq, e⟩
      obtain ⟨x, hx⟩ := List.exists_mem_of_ne_nil _ (h.ne q hq)
      have := mem_flat hq hx
      rw [h.flat] at this
      exact ⟨(x, q.1), (hm _).2 this, e⟩
  have := h4.length_eq
  rw [fl_len, List.length_map] at this
  exact this

theorem At.unique {xs : List Pt} {v : Pt} {n m : Nat} (h : At xs v n) (g : At xs v m) : n = m := by
  rcases Nat.lt_trichotomy n m with hl | hl | hl
  · have hn : n < xs.length := by have := g.le; omega
    exact absurd (g.before n _ hl (List.getElem?_eq_getElem hn)) (h.after n _ (Nat.le_refl _) (List.getElem?_eq_getElem hn))
  · exact hl
  · have hn : m < xs.length := by have := h.le; omega
    exact absurd (h.before m _ hl (List.getElem?_eq_getElem hn)) (g.after m _ (Nat.le_refl _) (List.getElem?_eq_getElem hn))

/-- where v lies, it is at its place -/
theorem strict_at {xs : List Pt} {v : Pt} (h : Strict false xs) {i : Nat} (hi : xs[i]? = some v) : At xs v i := by
  refine ⟨by have := (List.getElem?_eq_some_iff.1 hi).1; omega, fun j a hj ha => strict_lt h hj ha hi, fun j a hj ha hlt => ?_⟩
  rcases Nat.eq_or_lt_of_le hj with e | e
  · subst e
    rw [hi] at ha
    cases ha
    exact ltP_irrefl _ _ hlt
  · exact ltP_irrefl _ _ (ltP_trans hlt (strict_lt h e hi ha))

end Go.Proofs.Ytpoogkgekeocbaa
