/- Lists in the order of a key, those of one key as they stood. Plain lists; no program. -/
namespace Go.Proofs.Ytkfolfkgjpcmiaa

section
variable (K : Int → Int)

def Sorted (l : List Int) : Prop := l.Pairwise fun a b => K a ≤ K b
/-- those of one key -/
def ofKey (k : Int) (l : List Int) : List Int := l.filter fun a => decide (K a = k)

theorem ofKey_append (k : Int) (a b : List Int) : ofKey K k (a ++ b) = ofKey K k a ++ ofKey K k b := by simp [ofKey]
theorem ofKey_cons (k a : Int) (l : List Int) : ofKey K k (a :: l) = if K a = k then a :: ofKey K k l else ofKey K k l := by
  unfold ofKey
  rw [List.filter_cons]
  by_cases h : K a = k <;> simp [h]
theorem mem_ofKey {k a : Int} {l : List Int} : a ∈ ofKey K k l ↔ a ∈ l ∧ K a = k := by simp [ofKey]

/-- Same things of each key, in one order each. -/
def Alike (s t : List Int) : Prop := ∀ k, ofKey K k s = ofKey K k t

variable {K}

theorem Alike.refl (s : List Int) : Alike K s s := fun _ => rfl
theorem Alike.symm {s t : List Int} (h : Alike K s t) : Alike K t s := fun k => (h k).symm
theorem Alike.trans {s t u : List Int} (h : Alike K s t) (g : Alike K t u) : Alike K s u := fun k => (h k).trans (g k)
theorem Alike.append {a b c d : List Int} (h : Alike K a b) (g : Alike K c d) : Alike K (a ++ c) (b ++ d) := fun k => by
  rw [ofKey_append, ofKey_append, h k, g k]

theorem Alike.mem {s t : List Int} (h : Alike K s t) {a : Int} (ha : a ∈ s) : a ∈ t := by
  have : a ∈ ofKey K (K a) s := (mem_ofKey K).2 ⟨ha, rfl⟩
  rw [h] at this
  exact ((mem_ofKey K).1 this).1

/-- The order and what there is of each key tell the list. -/
theorem sorted_unique : ∀ {s t : List Int}, Sorted K s → Sorted K t → Alike K s t → s = t
  | [], t, _, _, h => by
    cases t with
    | nil => rfl
    | cons b t =>
      have := h.symm.mem (List.mem_cons_self (a := b))
      simp at this
  | a :: s, t, hs, ht, h => by
    cases t with
    | nil =>
      have := h.mem (List.mem_cons_self (a := a))
      simp at this
    | cons b t =>
      have hs' := List.pairwise_cons.1 hs
      have ht' := List.pairwise_cons.1 ht
      have hab : K a = K b := by
        have h1 := h.mem (List.mem_cons_self (a := a))
        have h2 := h.symm.mem (List.mem_cons_self (a := b))
        have g1 : K b ≤ K a := by
          rcases List.mem_cons.1 h1 with e | e
          · rw [e]; exact Int.le_refl _
          · exact ht'.1 a e
        have g2 : K a ≤ K b := by
          rcases List.mem_cons.1 h2 with e | e
          · rw [e]; exact Int.le_refl _
          · exact hs'.1 b e
        omega
      have hk := h (K a)
      rw [ofKey_cons, ofKey_cons, if_pos rfl, if_pos hab.symm] at hk
      have e : a = b := (List.cons.inj hk).1
      subst e
      have : Alike K s t := fun k => by
        have := h k
        rw [ofKey_cons, ofKey_cons] at this
        by_cases e : K a = k
        · rw [if_pos e, if_pos e] at this; exact (List.cons.inj this).2
        · rw [if_neg e, if_neg e] at this; exact this
      rw [sorted_unique hs'.2 ht'.2 this]

variable (K)

/-- where one more goes: behind all that do not stand behind it, from the end on -/
def atOf (l : List Int) (x : Int) : Nat → Nat
  | 0 => 0
  | n + 1 => if K ((l[n]?).getD 0) > K x then atOf l x n else n + 1

def ins (l : List Int) (x : Int) : List Int := l.take (atOf K l x l.length) ++ [x] ++ l.drop (atOf K l x l.length)
def isort : List Int → List Int → List Int
  | out, [] => out
  | out, x :: l => isort (ins K out x) l

variable {K}

theorem atOf_le (l : List Int) (x : Int) : ∀ n, atOf K l x n ≤ n
  | 0 => Nat.le_refl _
  | n + 1 => by
    simp only [atOf]
    split
    · exact Nat.le_succ_of_le (atOf_le l x n)
    · exact Nat.le_refl _

theorem atOf_after (l : List Int) (x : Int) : ∀ n i y, atOf K l x n ≤ i → i < n → l[i]? = some y → K x < K y
  | 0, i, y, _, h, _ => by omega
  | n + 1, i, y, h1, h2, hy => by
    simp only [atOf] at h1
    split at h1
    · rename_i hk
      by_cases e : i = n
      · subst e
        rw [hy] at hk
        exact hk
      · exact atOf_after l x n i y h1 (by omega) hy
    · omega

theorem atOf_before (l : List Int) (x : Int) : ∀ n, n ≤ l.length → ∀ y, 0 < atOf K l x n → l[atOf K l x n - 1]? = some y → K y ≤ K x
  | 0, _, y, h, _ => by simp [atOf] at h
  | n + 1, hn, y, h, hy => by
    simp only [atOf] at h hy
    split at h
    · rename_i hk
      rw [if_pos hk] at hy
      exact atOf_before l x n (by omega) y h hy
    · rename_i hk
      rw [if_neg hk] at hy
      simp only [Nat.add_sub_cancel] at hy
      rw [hy] at hk
      simp only [Option.getD_some] at hk
      omega

theorem mem_drop_after {l : List Int} {x y : Int} (h : y ∈ l.drop (atOf K l x l.length)) : K x < K y := by
  obtain ⟨i, hi⟩ := List.getElem?_of_mem h
  rw [List.getElem?_drop] at hi
  exact atOf_after l x l.length _ y (by omega) (List.getElem?_eq_some_iff.1 hi).1 hi

theorem mem_take_before {l : List Int} (hs : Sorted K l) {x y : Int} (h : y ∈ l.take (atOf K l x l.length)) : K y ≤ K x := by
  obtain ⟨i, hi⟩ := List.getElem?_of_mem h
  rw [List.getElem?_take] at hi
  split at hi
  · rename_i hlt
    have hle := atOf_le (K := K) l x l.length
    have hm : atOf K l x l.length - 1 < l.length := by omega
    have hb := atOf_before (K := K) l x l.length (Nat.le_refl _) _ (by omega) (List.getElem?_eq_getElem hm)
    by_cases e : i = atOf K l x l.length - 1
    · subst e
      rw [List.getElem?_eq_getElem hm] at hi
      rw [← Option.some.inj hi]
      exact hb
    · have hil : i < l.length := by omega
      have := List.pairwise_iff_getElem.1 hs i (atOf K l x l.length - 1) hil hm (by omega)
      rw [List.getElem?_eq_getElem hil] at hi
      rw [← Option.some.inj hi]
      omega
  · cases hi

theorem ins_sorted {l : List Int} (hs : Sorted K l) (x : Int) : Sorted K (ins K l x) := by
  unfold ins Sorted
  rw [List.append_assoc, List.pairwise_append]
  refine ⟨List.Pairwise.sublist (List.take_sublist _ _) hs, ?_, ?_⟩
  · rw [List.singleton_append, List.pairwise_cons]
    exact ⟨fun y hy => by have := mem_drop_after hy; omega, List.Pairwise.sublist (List.drop_sublist _ _) hs⟩
  · intro a ha b hb
    have h1 := mem_take_before hs ha
    rcases List.mem_append.1 hb with h | h
    · have : b = x := by simpa using h
      rw [this]; exact h1
    · have := mem_drop_after h; omega

theorem ins_alike (l : List Int) (x : Int) : Alike K (ins K l x) (l ++ [x]) := by
  intro k
  unfold ins
  have hl : l = l.take (atOf K l x l.length) ++ l.drop (atOf K l x l.length) := (List.take_append_drop _ _).symm
  rw [ofKey_append, ofKey_append, ofKey_append]
  conv => rhs; rw [hl]
  rw [ofKey_append, List.append_assoc, List.append_assoc]
  congr 1
  by_cases e : K x = k
  · have : ofKey K k (l.drop (atOf K l x l.length)) = [] := by
      unfold ofKey
      rw [List.filter_eq_nil_iff]
      intro y hy
      have := mem_drop_after hy
      simp
      omega
    rw [this]; simp
  · have : ofKey K k [x] = [] := by simp [ofKey, e]
    rw [this]; simp

theorem ins_len (l : List Int) (x : Int) : (ins K l x).length = l.length + 1 := by
  unfold ins
  simp only [List.length_append, List.length_take, List.length_drop, List.length_cons, List.length_nil]
  have := atOf_le (K := K) l x l.length
  omega

theorem isort_spec : ∀ (l out : List Int), Sorted K out → Sorted K (isort K out l) ∧ Alike K (isort K out l) (out ++ l)
  | [], out, h => ⟨h, by rw [List.append_nil]; exact Alike.refl _⟩
  | x :: l, out, h => by
    obtain ⟨h1, h2⟩ := isort_spec l (ins K out x) (ins_sorted h x)
    refine ⟨h1, h2.trans ?_⟩
    have := (ins_alike (K := K) out x).append (Alike.refl l)
    rw [List.append_assoc] at this
    exact this

variable (K)
def sortK (l : List Int) : List Int := isort K [] l
variable {K}
theorem sortK_sorted (l : List Int) : Sorted K (sortK K l) := (isort_spec l [] List.Pairwise.nil).1
theorem sortK_alike (l : List Int) : Alike K (sortK K l) l := (isort_spec (K := K) l [] List.Pairwise.nil).2
theorem sortK_unique {l s : List Int} (h : Sorted K s) (g : Alike K s l) : s = sortK K l := sorted_unique h (sortK_sorted l) (g.trans (sortK_alike l).symm)
theorem sortK_of_sorted {l : List Int} (h : Sorted K l) : sortK K l = l := (sortK_unique h (Alike.refl l)).symm

theorem isort_append (a b out : List Int) : isort K out (a ++ b) = isort K (isort K out a) b := by
  induction a generalizing out with
  | nil => rfl
  | cons x a ih => exact ih _
theorem sortK_snoc (l : List Int) (x : Int) : sortK K (l ++ [x]) = ins K (sortK K l) x := by
  unfold sortK
  rw [isort_append]
  rfl
theorem sortK_len (l : List Int) : (sortK K l).length = l.length := by
  have key : ∀ (l out : List Int), (isort K out l).length = out.length + l.length := by
    intro l
    induction l with
    | nil => intro out; simp [isort]
    | cons x l ih => intro out; simp only [isort]; rw [ih, ins_len]; simp; omega
  have := key l []
  simpa [sortK] using this

variable (K)
/-- two lists in order -/
def mergeK : List Int → List Int → List Int
  | [], b => b
  | a :: l, [] => a :: l
  | a :: l, b :: r => if K b < K a then b :: mergeK (a :: l) r else a :: mergeK l (b :: r)
termination_by a b => a.length + b.length
variable {K}

theorem mergeK_nil_right (a : List Int) : mergeK K a [] = a := by
  cases a <;> simp [mergeK]

theorem mergeK_alike : ∀ (a b : List Int), Sorted K a → Sorted K b → Alike K (mergeK K a b) (a ++ b)
  | [], b, _, _ => by simp only [mergeK, List.nil_append]; exact Alike.refl _
  | a :: l, [], _, _ => by simp only [mergeK, List.append_nil]; exact Alike.refl _
  | a :: l, b :: r, ha, hb => by
    simp only [mergeK]
    split
    · rename_i hlt
      have ih := mergeK_alike (a :: l) r ha (List.pairwise_cons.1 hb).2
      intro k
      rw [ofKey_cons, ih k, ofKey_append, ofKey_append, ofKey_cons K k b r]
      by_cases e : K b = k
      · have hnil : ofKey K k (a :: l) = [] := by
          unfold ofKey
          rw [List.filter_eq_nil_iff]
          intro y hy
          have : K a ≤ K y := by
            rcases List.mem_cons.1 hy with e' | e'
            · rw [e']; exact Int.le_refl _
            · exact (List.pairwise_cons.1 ha).1 y e'
          simp
          omega
        rw [if_pos e, if_pos e, hnil]
        simp
      · rw [if_neg e, if_neg e]
    · have ih := mergeK_alike l (b :: r) (List.pairwise_cons.1 ha).2 hb
      intro k
      rw [ofKey_cons, ih k, List.cons_append, ofKey_cons]
termination_by a b => a.length + b.length

theorem mergeK_mem : ∀ (a b : List Int) (y : Int), y ∈ mergeK K a b → y ∈ a ∨ y ∈ b
  | [], b, y, h => by simp only [mergeK] at h; exact .inr h
  | a :: l, [], y, h => by simp only [mergeK] at h; exact .inl h
  | a :: l, b :: r, y, h => by
    simp only [mergeK] at h
    split at h
    · rcases List.mem_cons.1 h with e | e
      · exact .inr (by rw [e]; exact List.mem_cons_self)
      · rcases mergeK_mem (a :: l) r y e with h' | h'
        · exact .inl h'
        · exact .inr (List.mem_cons_of_mem _ h')
    · rcases List.mem_cons.1 h with e | e
      · exact .inl (by rw [e]; exact List.mem_cons_self)
      · rcases mergeK_mem l (b :: r) y e with h' | h'
        · exact .inl (List.mem_cons_of_mem _ h')
        · exact .inr h'
termination_by a b => a.length + b.length

theorem mergeK_sorted : ∀ (a b : List Int), Sorted K a → Sorted K b → Sorted K (mergeK K a b)
  | [], b, _, hb => by simp only [mergeK]; exact hb
  | a :: l, [], ha, _ => by simp only [mergeK]; exact ha
  | a :: l, b :: r, ha, hb => by
    simp only [mergeK]
    split
    · rename_i hlt
      refine List.pairwise_cons.2 ⟨fun y hy => ?_, mergeK_sorted (a :: l) r ha (List.pairwise_cons.1 hb).2⟩
      rcases mergeK_mem _ _ _ hy with h | h
      · have : K a ≤ K y := by
          rcases List.mem_cons.1 h with e' | e'
          · rw [e']; exact Int.le_refl _
          · exact (List.pairwise_cons.1 ha).1 y e'
        omega
      · exact (List.pairwise_cons.1 hb).1 y h
    · rename_i hlt
      refine List.pairwise_cons.2 ⟨fun y hy => ?_, mergeK_sorted l (b :: r) (List.pairwise_cons.1 ha).2 hb⟩
      rcases mergeK_mem _ _ _ hy with h | h
      · exact (List.pairwise_cons.1 ha).1 y h
      · have : K b ≤ K y := by
          rcases List.mem_cons.1 h with e' | e'
          · rw [e']; exact Int.le_refl _
          · exact (List.pairwise_cons.1 hb).1 y e'
        omega
termination_by a b => a.length + b.length

theorem mergeK_eq {a b : List Int} (ha : Sorted K a) (hb : Sorted K b) : mergeK K a b = sortK K (a ++ b) :=
  sortK_unique (mergeK_sorted a b ha hb) (mergeK_alike a b ha hb)
end
end Go.Proofs.Ytkfolfkgjpcmiaa
