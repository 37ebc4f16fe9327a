/- Heaps, in plain lists. -/
namespace Go.Proofs.Ytgeaboahccfdcaa

/-- the number that lies there -/
def nth (l : List Int) (i : Nat) : Int := (l[i]?).getD 0
theorem nth_of {l : List Int} {i : Nat} {a : Int} (h : l[i]? = some a) : nth l i = a := by unfold nth; rw [h]; rfl
theorem nth_get {l : List Int} {i : Nat} (h : i < l.length) : l[i]? = some (nth l i) := by unfold nth; rw [List.getElem?_eq_getElem h]; rfl
theorem nth_set (l : List Int) (i j : Nat) (v : Int) (h : i < l.length) : nth (l.set i v) j = if i = j then v else nth l j := by
  unfold nth
  rw [List.getElem?_set]
  by_cases e : i = j
  · subst e; simp [h]
  · simp [e]
theorem nth_ext {a b : List Int} (h : a.length = b.length) (hn : ∀ i, i < a.length → nth a i = nth b i) : a = b := by
  refine List.ext_getElem? fun i => ?_
  by_cases hi : i < a.length
  · rw [nth_get hi, nth_get (by omega), hn i hi]
  · rw [List.getElem?_eq_none (by omega), List.getElem?_eq_none (by omega)]
theorem nth_take {l : List Int} {n i : Nat} (h : i < n) : nth (l.take n) i = nth l i := by
  unfold nth
  rw [List.getElem?_take_of_lt h]
theorem nth_append_left {l r : List Int} {i : Nat} (h : i < l.length) : nth (l ++ r) i = nth l i := by
  unfold nth
  rw [List.getElem?_append_left h]

/-- the rank: the one that comes first has the least -/
def kd (t : Bool) (a : Int) : Int := if t then -a else a
theorem kd_inj {t : Bool} {a b : Int} (h : kd t a = kd t b) : a = b := by unfold kd at h; split at h <;> omega

/-- two places change -/
def swp (l : List Int) (i k : Nat) : List Int := (l.set i (nth l k)).set k (nth l i)
theorem swp_len (l : List Int) (i k : Nat) : (swp l i k).length = l.length := by simp [swp]
theorem swp_nth {l : List Int} {i k : Nat} (hi : i < l.length) (hk : k < l.length) (j : Nat) : nth (swp l i k) j = if j = i then nth l k else if j = k then nth l i else nth l j := by
  unfold swp
  rw [nth_set _ _ _ _ (by simpa using hk), nth_set _ _ _ _ hi]
  by_cases e1 : j = k
  · subst e1
    by_cases e2 : j = i
    · subst e2; simp
    · rw [if_pos rfl, if_neg e2, if_pos rfl]
  · rw [if_neg (Ne.symm e1)]
    by_cases e2 : j = i
    · rw [if_pos e2.symm, if_pos e2]
    · rw [if_neg (Ne.symm e2), if_neg e2, if_neg e1]
theorem swp_perm {l : List Int} {i k : Nat} (hi : i < l.length) (hk : k < l.length) : (swp l i k).Perm l := by
  have h := Array.swap_perm (xs := l.toArray) (i := i) (j := k) (by simpa using hi) (by simpa using hk)
  have h2 := h.toList
  simp only [Array.toList_swap] at h2
  unfold swp
  have e1 : nth l k = l[k] := by unfold nth; rw [List.getElem?_eq_getElem hk]; rfl
  have e2 : nth l i = l[i] := by unfold nth; rw [List.getElem?_eq_getElem hi]; rfl
  rw [e1, e2]
  simpa using h2

/-- From s on, each stands ahead of those below it. -/
def HeapFrom (t : Bool) (s : Nat) (l : List Int) : Prop := ∀ c, 0 < c → c < l.length → s ≤ (c - 1) / 2 → kd t (nth l ((c - 1) / 2)) ≤ kd t (nth l c)
def IsHeap (t : Bool) (l : List Int) : Prop := HeapFrom t 0 l

theorem IsHeap.root {t : Bool} {l : List Int} (h : IsHeap t l) : ∀ i, i < l.length → kd t (nth l 0) ≤ kd t (nth l i) := by
  intro i
  induction i using Nat.strongRecOn with
  | ind i ih =>
    intro hi
    by_cases h0 : i = 0
    · subst h0; exact Int.le_refl _
    · have := ih ((i - 1) / 2) (by omega) (by omega)
      exact Int.le_trans this (h i (by omega) hi (Nat.zero_le _))

/-- All is in order but what stands below i. -/
structure Down (t : Bool) (s i : Nat) (l : List Int) : Prop where
  le : s ≤ i
  rest : ∀ c, 0 < c → c < l.length → s ≤ (c - 1) / 2 → (c - 1) / 2 ≠ i → kd t (nth l ((c - 1) / 2)) ≤ kd t (nth l c)
  over : ∀ c, 0 < c → c < l.length → (c - 1) / 2 = i → 0 < i → s ≤ (i - 1) / 2 → kd t (nth l ((i - 1) / 2)) ≤ kd t (nth l c)

/-- b: the best of i and of those of its children that lie ahead of k -/
structure Best (t : Bool) (l : List Int) (i k b : Nat) : Prop where
  or : b = i ∨ (2 * i + 1 ≤ b ∧ b < k ∧ b < l.length ∧ kd t (nth l b) < kd t (nth l i))
  all : ∀ c, 2 * i + 1 ≤ c → c < k → c < l.length → kd t (nth l b) ≤ kd t (nth l c)

theorem Best.start (t : Bool) (l : List Int) (i : Nat) : Best t l i (2 * i + 1) i := ⟨.inl rfl, fun c h1 h2 => by omega⟩
theorem Best.le {t : Bool} {l : List Int} {i k b : Nat} (h : Best t l i k b) : kd t (nth l b) ≤ kd t (nth l i) := by
  rcases h.or with rfl | h
  · exact Int.le_refl _
  · omega
theorem Best.take {t : Bool} {l : List Int} {i k b : Nat} (h : Best t l i k b) (hk : 2 * i + 1 ≤ k) (hl : k < l.length) (hlt : kd t (nth l k) < kd t (nth l b)) : Best t l i (k + 1) k := by
  have hle := h.le
  refine ⟨.inr ⟨hk, by omega, hl, by omega⟩, fun c h1 h2 h3 => ?_⟩
  by_cases e : c = k
  · subst e; exact Int.le_refl _
  · have := h.all c h1 (by omega) h3; omega
theorem Best.keep {t : Bool} {l : List Int} {i k b : Nat} (h : Best t l i k b) (hge : kd t (nth l b) ≤ kd t (nth l k)) : Best t l i (k + 1) b := by
  refine ⟨h.or.imp id (fun ⟨h1, h2, h3⟩ => ⟨h1, by omega, h3⟩), fun c h1 h2 h3 => ?_⟩
  by_cases e : c = k
  · subst e; exact hge
  · exact h.all c h1 (by omega) h3

theorem Down.done {t : Bool} {s i k : Nat} {l : List Int} (h : Down t s i l) (hb : Best t l i k i) (hk : 2 * i + 2 < k ∨ l.length ≤ k) : HeapFrom t s l := by
  intro c h0 hc hs
  by_cases e : (c - 1) / 2 = i
  · rw [e]
    exact hb.all c (by omega) (by omega) hc
  · exact h.rest c h0 hc hs e

theorem Down.step {t : Bool} {s i k b : Nat} {l : List Int} (h : Down t s i l) (hb : Best t l i k b) (hk : 2 * i + 2 < k ∨ l.length ≤ k) (hne : b ≠ i) (hbc : b ≤ 2 * i + 2) : Down t s b (swp l i b) := by
  rcases hb.or with e | ⟨b1, b2, b3, b4⟩
  · exact absurd e hne
  have hle := h.le
  have hi : i < l.length := by omega
  have hpb : (b - 1) / 2 = i := by omega
  refine ⟨by omega, fun c h0 hc hs hcb => ?_, fun c h0 hc hcb hb0 hs => ?_⟩
  · rw [swp_len] at hc
    rw [swp_nth hi b3, swp_nth hi b3]
    by_cases e1 : c = i
    · subst e1
      rw [if_neg (show ¬ (c - 1) / 2 = c by omega), if_neg (show ¬ (c - 1) / 2 = b by omega), if_pos rfl]
      exact h.over b (by omega) b3 hpb h0 hs
    · by_cases e2 : c = b
      · subst e2
        rw [if_pos hpb, if_neg e1, if_pos rfl]
        omega
      · rw [if_neg e1, if_neg e2]
        by_cases e3 : (c - 1) / 2 = i
        · rw [if_pos e3]
          exact hb.all c (by omega) (by omega) hc
        · rw [if_neg e3, if_neg hcb]
          exact h.rest c h0 hc hs e3
  · rw [swp_len] at hc
    rw [swp_nth hi b3, swp_nth hi b3, if_pos hpb, if_neg (show ¬ c = i by omega), if_neg (show ¬ c = b by omega)]
    have := h.rest c h0 hc (by omega) (by omega)
    rw [hcb] at this
    exact this

/-- All is in order but i and what stands over it. -/
structure Up (t : Bool) (i : Nat) (l : List Int) : Prop where
  lt : i < l.length
  rest : ∀ c, 0 < c → c < l.length → c ≠ i → kd t (nth l ((c - 1) / 2)) ≤ kd t (nth l c)
  over : ∀ c, 0 < c → c < l.length → (c - 1) / 2 = i → 0 < i → kd t (nth l ((i - 1) / 2)) ≤ kd t (nth l c)

theorem Up.done {t : Bool} {i : Nat} {l : List Int} (h : Up t i l) (hd : i = 0 ∨ kd t (nth l ((i - 1) / 2)) ≤ kd t (nth l i)) : IsHeap t l := by
  intro c h0 hc _
  by_cases e : c = i
  · subst e
    rcases hd with hd | hd
    · omega
    · exact hd
  · exact h.rest c h0 hc e

theorem Up.step {t : Bool} {i : Nat} {l : List Int} (h : Up t i l) (h0 : 0 < i) (hlt : kd t (nth l i) < kd t (nth l ((i - 1) / 2))) : Up t ((i - 1) / 2) (swp l i ((i - 1) / 2)) := by
  have hi := h.lt
  have hp : (i - 1) / 2 < l.length := by omega
  generalize hpe : (i - 1) / 2 = p at hlt hp
  have hpi : p < i := by omega
  refine ⟨by rw [swp_len]; exact hp, fun c hc0 hc hcp => ?_, fun c hc0 hc hcp hp0 => ?_⟩
  · rw [swp_len] at hc
    rw [swp_nth hi hp, swp_nth hi hp]
    by_cases e1 : c = i
    · subst e1
      rw [if_neg (show ¬ (c - 1) / 2 = c by omega), if_pos hpe, if_pos rfl]
      omega
    · rw [if_neg e1, if_neg hcp]
      by_cases e2 : (c - 1) / 2 = i
      · rw [if_pos e2]
        have := h.over c hc0 hc e2 h0
        rw [hpe] at this
        exact this
      · by_cases e3 : (c - 1) / 2 = p
        · rw [if_neg e2, if_pos e3]
          have := h.rest c hc0 hc e1
          rw [e3] at this
          omega
        · rw [if_neg e2, if_neg e3]
          exact h.rest c hc0 hc e1
  · rw [swp_len] at hc
    rw [swp_nth hi hp, swp_nth hi hp]
    have hpp := h.rest p hp0 hp (by omega)
    rw [if_neg (show ¬ (p - 1) / 2 = i by omega), if_neg (show ¬ (p - 1) / 2 = p by omega)]
    by_cases e1 : c = i
    · rw [if_pos e1]; exact hpp
    · rw [if_neg e1, if_neg (show ¬ c = p by omega)]
      have := h.rest c hc0 hc e1
      rw [hcp] at this
      omega

theorem IsHeap.push {t : Bool} {l : List Int} (h : IsHeap t l) (v : Int) : Up t l.length (l ++ [v]) := by
  refine ⟨by simp, fun c h0 hc hne => ?_, fun c h0 hc he => ?_⟩
  · simp only [List.length_append, List.length_cons, List.length_nil] at hc
    rw [nth_append_left (by omega), nth_append_left (by omega)]
    exact h c h0 (by omega) (Nat.zero_le _)
  · simp only [List.length_append, List.length_cons, List.length_nil] at hc
    omega

/-- The first one gone, the last one in its place. -/
theorem IsHeap.drop {t : Bool} {l : List Int} {n : Nat} (h : IsHeap t l) (hn : l.length = n + 1) : Down t 0 0 ((swp l 0 n).take n) := by
  have hlen : ((swp l 0 n).take n).length = n := by rw [List.length_take, swp_len]; omega
  refine ⟨Nat.le_refl _, fun c h0 hc _ hne => ?_, fun c h0 hc he h00 => by omega⟩
  rw [hlen] at hc
  rw [nth_take (by omega), nth_take hc, swp_nth (by omega) (by omega), swp_nth (by omega) (by omega), if_neg hne, if_neg (show ¬ (c - 1) / 2 = n by omega), if_neg (show ¬ c = 0 by omega), if_neg (show ¬ c = n by omega)]
  exact h c h0 (by omega) (Nat.zero_le _)

theorem drop_perm {l : List Int} {n : Nat} (hn : l.length = n + 1) : (nth l 0 :: (swp l 0 n).take n).Perm l := by
  have h := swp_perm (l := l) (i := 0) (k := n) (by omega) (by omega)
  have e : swp l 0 n = (swp l 0 n).take n ++ [nth l 0] := by
    have hl : (swp l 0 n).length = n + 1 := by rw [swp_len]; exact hn
    have h2 : (swp l 0 n)[n]? = some (nth l 0) := by
      rw [nth_get (by omega), swp_nth (by omega) (by omega)]
      by_cases e0 : n = 0
      · subst e0; simp
      · rw [if_neg e0, if_pos rfl]
    have := List.take_add_one (l := swp l 0 n) (i := n)
    rw [h2, List.take_of_length_le (by omega)] at this
    simpa using this
  have h3 : (nth l 0 :: (swp l 0 n).take n).Perm ((swp l 0 n).take n ++ [nth l 0]) := by
    have := List.perm_append_comm (l₁ := [nth l 0]) (l₂ := (swp l 0 n).take n)
    simpa using this
  rw [← e] at h3
  exact h3.trans h

/-- The first one turned. -/
theorem IsHeap.turn {t : Bool} {l : List Int} (h : IsHeap t l) (v : Int) (hl : 0 < l.length) : Down t 0 0 (l.set 0 v) := by
  refine ⟨Nat.le_refl _, fun c h0 hc _ hne => ?_, fun c h0 hc he h00 => by omega⟩
  rw [List.length_set] at hc
  rw [nth_set _ _ _ _ hl, nth_set _ _ _ _ hl, if_neg (Ne.symm hne), if_neg (show ¬ 0 = c by omega)]
  exact h c h0 hc (Nat.zero_le _)

theorem turn_perm {l : List Int} (v : Int) (hl : 0 < l.length) : (nth l 0 :: l.set 0 v).Perm (v :: l) := by
  cases l with
  | nil => simp at hl
  | cons a r =>
    have : nth (a :: r) 0 = a := rfl
    rw [this, List.set_cons_zero]
    exact List.Perm.swap v a r

theorem heapFrom_high (t : Bool) (l : List Int) : HeapFrom t (l.length / 2) l := by
  intro c h0 hc hs
  omega
theorem HeapFrom.down {t : Bool} {i : Nat} {l : List Int} (h : HeapFrom t (i + 1) l) : Down t i i l :=
  ⟨Nat.le_refl _, fun c h0 hc hs hne => h c h0 hc (by omega), fun c h0 hc he hi hs => by omega⟩

/-- is it a heap? -/
def heapB (t : Bool) (l : List Int) : Bool := decide (∀ c, c < l.length → 0 < c → kd t (nth l ((c - 1) / 2)) ≤ kd t (nth l c))
theorem heapB_iff {t : Bool} {l : List Int} : heapB t l = true ↔ IsHeap t l := by
  unfold heapB
  rw [decide_eq_true_eq]
  exact ⟨fun h c h0 hc _ => h c hc h0, fun h c hc h0 => h c h0 hc (Nat.zero_le _)⟩

/-- The reference: one more, in its place. -/
def put : List Int → Int → List Int
  | [], n => [n]
  | a :: l, n => if a ≥ n then n :: a :: l else a :: put l n
theorem put_len (l : List Int) (n : Int) : (put l n).length = l.length + 1 := by
  induction l with
  | nil => rfl
  | cons a l ih => simp only [put]; split <;> simp [ih]
theorem put_perm (l : List Int) (n : Int) : (put l n).Perm (n :: l) := by
  induction l with
  | nil => exact List.Perm.refl _
  | cons a l ih =>
    simp only [put]
    split
    · exact List.Perm.refl _
    · exact (List.Perm.cons a ih).trans (List.Perm.swap n a l)

def Rises (l : List Int) : Prop := l.Pairwise (· ≤ ·)
theorem put_rises {l : List Int} (h : Rises l) (n : Int) : Rises (put l n) := by
  induction l with
  | nil => exact List.pairwise_singleton _ _
  | cons a l ih =>
    have h1 := List.pairwise_cons.1 h
    simp only [put]
    split
    · rename_i hge
      refine List.pairwise_cons.2 ⟨fun x hx => ?_, h⟩
      rcases List.mem_cons.1 hx with e | e
      · subst e; exact hge
      · exact Int.le_trans hge (h1.1 x e)
    · refine List.pairwise_cons.2 ⟨fun x hx => ?_, ih h1.2⟩
      have := (put_perm l n).mem_iff.1 hx
      rcases List.mem_cons.1 this with e | e
      · subst e; omega
      · exact h1.1 x e

/-- The first one of a heap is the first one of the list that rises. -/
theorem heap_first {l r : List Int} {a : Int} (h : IsHeap false l) (hp : l.Perm (a :: r)) (hr : Rises (a :: r)) : nth l 0 = a := by
  have hl : 0 < l.length := by rw [hp.length_eq]; simp
  have h1 := h.root
  obtain ⟨i, hi⟩ := List.getElem?_of_mem (hp.mem_iff.2 (List.mem_cons_self (a := a) (l := r)))
  have h2 := h1 i (List.getElem?_eq_some_iff.1 hi).1
  rw [nth_of hi] at h2
  have h3 : nth l 0 ∈ a :: r := hp.mem_iff.1 (List.mem_of_getElem? (nth_get hl))
  have h4 : a ≤ nth l 0 := by
    rcases List.mem_cons.1 h3 with e | e
    · omega
    · exact (List.pairwise_cons.1 hr).1 _ e
  unfold kd at h2
  simp at h2
  omega

/-- up to j: how the reference's loop stands -/
def anyGe (l : List Int) (n : Int) (j : Nat) : Bool := (l.take j).any fun a => decide (a ≥ n)
def putTo (l : List Int) (n : Int) (j : Nat) : List Int := if anyGe l n j = true then put (l.take j) n else l.take j

theorem anyGe_succ {l : List Int} {n : Int} {j : Nat} {a : Int} (h : l[j]? = some a) : anyGe l n (j + 1) = (anyGe l n j || decide (a ≥ n)) := by
  unfold anyGe
  rw [List.take_add_one, h, List.any_append]
  simp

theorem put_append (l : List Int) (n a : Int) : put (l ++ [a]) n = if (l.any fun a => decide (a ≥ n)) = true then put l n ++ [a] else if a ≥ n then l ++ [n, a] else l ++ [a, n] := by
  induction l with
  | nil => simp only [List.nil_append, put, List.any_nil]; split <;> simp_all
  | cons b l ih =>
    simp only [List.cons_append, put, List.any_cons]
    by_cases hb : b ≥ n
    · simp [hb]
    · simp only [hb, if_false, decide_false, Bool.false_or, ih]
      split
      · simp
      · split <;> simp

theorem put_end (l : List Int) (n : Int) (h : (l.any fun a => decide (a ≥ n)) = false) : put l n = l ++ [n] := by
  induction l with
  | nil => rfl
  | cons b l ih =>
    simp only [List.any_cons, Bool.or_eq_false_iff, decide_eq_false_iff_not] at h
    simp only [put, h.1, if_false, ih h.2, List.cons_append]

theorem putTo_succ {l : List Int} {n : Int} {j : Nat} {a : Int} (h : l[j]? = some a) :
    putTo l n (j + 1) = if anyGe l n j = true then putTo l n j ++ [a] else if a ≥ n then putTo l n j ++ [n] ++ [a] else putTo l n j ++ [a] := by
  have ht : l.take (j + 1) = l.take j ++ [a] := by rw [List.take_add_one, h]; rfl
  unfold putTo
  rw [anyGe_succ h, ht, put_append]
  have e : ((l.take j).any fun a => decide (a ≥ n)) = anyGe l n j := rfl
  rw [e]
  cases hb : anyGe l n j
  · by_cases ha : a ≥ n <;> simp [ha]
  · simp

theorem putTo_len (l : List Int) (n : Int) (j : Nat) (h : j ≤ l.length) : (putTo l n j).length ≤ j + 1 := by
  unfold putTo
  split
  · rw [put_len, List.length_take]; omega
  · rw [List.length_take]; omega

end Go.Proofs.Ytgeaboahccfdcaa
