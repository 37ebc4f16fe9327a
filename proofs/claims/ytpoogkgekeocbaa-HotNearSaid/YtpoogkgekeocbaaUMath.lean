/- Lists in order in which each thing stands once. -/
import Derived.Test.YtpoogkgekeocbaaMath
namespace Go.Proofs.Ytpoogkgekeocbaa

def Strict (t : Bool) (l : List Pt) : Prop := l.Pairwise (ltP t)

theorem Strict.sorted {t l} (h : Strict t l) : Sorted t l := List.Pairwise.imp (fun hab hba => ltP_irrefl t _ (ltP_trans hab hba)) h

theorem strict_unique {t : Bool} : ∀ {a b : List Pt}, Strict t a → Strict t b → (∀ x, x ∈ a ↔ x ∈ b) → a = b
  | [], [], _, _, _ => rfl
  | [], y :: b, _, _, h => by have := (h y).2 List.mem_cons_self; simp at this
  | x :: a, [], _, _, h => by have := (h x).1 List.mem_cons_self; simp at this
  | x :: a, y :: b, ha, hb, h => by
    have h1 := List.pairwise_cons.1 ha
    have h2 := List.pairwise_cons.1 hb
    have hxy : x = y := by
      rcases List.mem_cons.1 ((h x).1 List.mem_cons_self) with e | e
      · exact e
      · rcases List.mem_cons.1 ((h y).2 List.mem_cons_self) with e2 | e2
        · exact e2.symm
        · exact absurd (ltP_trans (h1.1 y e2) (h2.1 x e)) (ltP_irrefl t x)
    subst hxy
    rw [strict_unique h1.2 h2.2 (fun z => ?_)]
    have hz := h z
    simp only [List.mem_cons] at hz
    constructor
    · intro hm
      rcases hz.1 (.inr hm) with e | e
      · subst e; exact absurd (h1.1 z hm) (ltP_irrefl t z)
      · exact e
    · intro hm
      rcases hz.2 (.inr hm) with e | e
      · subst e; exact absurd (h2.1 z hm) (ltP_irrefl t z)
      · exact e

theorem strict_ins {t : Bool} {os : List Pt} {n : Nat} {x : Pt} (h : Strict t os) (h1 : ∀ a ∈ os.take n, ltP t a x) (h2 : ∀ y, os[n]? = some y → ltP t x y) : Strict t (os.take n ++ ([x] ++ os.drop n)) := by
  have hd : ∀ b ∈ os.drop n, ltP t x b := by
    intro b hb
    have hs : Strict t (os.drop n) := List.Pairwise.sublist (List.drop_sublist _ _) h
    match hh : os.drop n with
    | [] => rw [hh] at hb; simp at hb
    | y :: r =>
      have hy : os[n]? = some y := by
        have := List.getElem?_drop (xs := os) (i := n) (j := 0)
        rw [hh] at this
        simpa using this.symm
      rw [hh] at hb hs
      rcases List.mem_cons.1 hb with e | e
      · subst e; exact h2 b hy
      · exact ltP_trans (h2 y hy) ((List.pairwise_cons.1 hs).1 b e)
  have h' := h
  unfold Strict at h' ⊢
  rw [← List.take_append_drop n os] at h'
  obtain ⟨p1, p2, p3⟩ := List.pairwise_append.1 h'
  refine List.pairwise_append.2 ⟨p1, List.pairwise_cons.2 ⟨hd, p2⟩, fun a ha b hb => ?_⟩
  rcases List.mem_cons.1 hb with e | e
  · subst e; exact h1 a ha
  · exact p3 a ha b e

theorem mem_ins (os : List Pt) (n : Nat) (x y : Pt) : y ∈ os.take n ++ ([x] ++ os.drop n) ↔ y ∈ os ∨ y = x := by
  have : y ∈ os ↔ y ∈ os.take n ++ os.drop n := by rw [List.take_append_drop]
  rw [this]
  simp only [List.mem_append, List.mem_singleton]
  constructor
  · rintro (h | h | h)
    · exact .inl (.inl h)
    · exact .inr h
    · exact .inl (.inr h)
  · rintro ((h | h) | h)
    · exact .inl h
    · exact .inr (.inr h)
    · exact .inr (.inl h)

/-- each once, in order -/
def uniq (t : Bool) : List Pt → List Pt
  | [] => []
  | a :: r => (uniq t r).filter (fun x => ltB t x a) ++ ([a] ++ (uniq t r).filter (fun x => ltB t a x))
theorem uniq_mem (t : Bool) : ∀ (l : List Pt) (x : Pt), x ∈ uniq t l ↔ x ∈ l
  | [], x => Iff.rfl
  | a :: r, x => by
    simp only [uniq, List.mem_append, List.mem_filter, List.mem_cons, List.not_mem_nil, or_false, uniq_mem t r, ltB, decide_eq_true_eq]
    constructor
    · rintro (h | h | h)
      · exact .inr h.1
      · exact .inl h
      · exact .inr h.1
    · rintro (h | h)
      · exact .inr (.inl h)
      · rcases ltP_tri t x a with e | e | e
        · exact .inl ⟨h, e⟩
        · exact .inr (.inl e)
        · exact .inr (.inr ⟨h, e⟩)
theorem uniq_strict (t : Bool) : ∀ (l : List Pt), Strict t (uniq t l)
  | [] => List.Pairwise.nil
  | a :: r => by
    have h := uniq_strict t r
    refine List.pairwise_append.2 ⟨List.Pairwise.sublist List.filter_sublist h, List.pairwise_cons.2 ⟨fun b hb => ?_, List.Pairwise.sublist List.filter_sublist h⟩, fun x hx b hb => ?_⟩
    · have := (List.mem_filter.1 hb).2
      simpa [ltB] using this
    · have hx2 : ltP t x a := by have := (List.mem_filter.1 hx).2; simpa [ltB] using this
      rcases List.mem_cons.1 hb with e | e
      · subst e; exact hx2
      · have : ltP t a b := by have := (List.mem_filter.1 e).2; simpa [ltB] using this
        exact ltP_trans hx2 this
theorem eq_uniq {t : Bool} {l xs : List Pt} (h : Strict t l) (hm : ∀ x, x ∈ l ↔ x ∈ xs) : l = uniq t xs :=
  strict_unique h (uniq_strict t xs) fun x => (hm x).trans (uniq_mem t xs x).symm
theorem uniq_eq {t : Bool} {xs ys : List Pt} (hm : ∀ x, x ∈ xs ↔ x ∈ ys) : uniq t xs = uniq t ys :=
  eq_uniq (uniq_strict t xs) fun x => (uniq_mem t xs x).trans (hm x)
theorem uniq_len (t : Bool) : ∀ (l : List Pt), (uniq t l).length ≤ l.length
  | [] => Nat.le_refl _
  | a :: r => by
    have h := uniq_len t r
    have h2 : ∀ (m : List Pt), (m.filter (fun x => ltB t x a)).length + (m.filter (fun x => ltB t a x)).length ≤ m.length := by
      intro m
      induction m with
      | nil => simp
      | cons b m ih =>
        by_cases e1 : ltP t b a
        · have e2 : ¬ ltP t a b := fun h2 => ltP_irrefl t a (ltP_trans h2 e1)
          simp [List.filter_cons, ltB, e1, e2] at ih ⊢; omega
        · by_cases e2 : ltP t a b
          · simp [List.filter_cons, ltB, e1, e2] at ih ⊢; omega
          · simp [List.filter_cons, ltB, e1, e2] at ih ⊢; omega
    have := h2 (uniq t r)
    simp only [uniq, List.length_append, List.length_cons, List.length_nil]
    omega

end Go.Proofs.Ytpoogkgekeocbaa
