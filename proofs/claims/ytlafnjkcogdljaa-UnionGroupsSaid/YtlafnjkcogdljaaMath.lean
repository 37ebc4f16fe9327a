/- Numbers, parted: a forest of trees, and of each number the least one of its set. Plain lists and numbers; no program. -/
namespace Go.Proofs.Ytlafnjkcogdljaa

def put (f : Nat → Nat) (i v : Nat) : Nat → Nat := fun k => if k = i then v else f k

theorem put_same (f : Nat → Nat) (i v : Nat) : put f i v i = v := by simp [put]
theorem put_other (f : Nat → Nat) (i v k : Nat) (h : k ≠ i) : put f i v k = f k := by simp [put, h]

/-- up: the next one on the way to the root; R: the root; sz: sizes (of roots; of others they are what they were). -/
structure Forest (n : Nat) (up sz R : Nat → Nat) : Prop where
  lt : ∀ i, i < n → up i < n
  Rlt : ∀ i, i < n → R i < n
  Rup : ∀ i, i < n → R (up i) = R i
  Rroot : ∀ i, i < n → up (R i) = R i
  self : ∀ i, i < n → up i = i → R i = i
  grow : ∀ i, i < n → up i ≠ i → sz i < sz (up i)
  pos : ∀ i, i < n → 1 ≤ sz i
  le : ∀ i, i < n → sz i ≤ n

theorem Forest.idem {n up sz R} (h : Forest n up sz R) {i : Nat} (hi : i < n) : R (R i) = R i :=
  h.self _ (h.Rlt i hi) (h.Rroot i hi)

theorem Forest.halve {n : Nat} {up sz R : Nat → Nat} (h : Forest n up sz R) {k : Nat} (hk : k < n) (hne : up k ≠ k) :
    Forest n (put up k (up (up k))) sz R := by
  have hu := h.lt k hk
  have hg := h.grow k hk hne
  have hg2 : sz (up k) ≤ sz (up (up k)) := by
    by_cases e : up (up k) = up k
    · rw [e]; exact Nat.le_refl _
    · exact Nat.le_of_lt (h.grow _ hu e)
  have hne2 : up (up k) ≠ k := by
    intro e; rw [e] at hg2; omega
  refine ⟨?_, h.Rlt, ?_, ?_, ?_, ?_, h.pos, h.le⟩
  · intro i hi
    by_cases e : i = k
    · subst e; rw [put_same]; exact h.lt _ hu
    · rw [put_other _ _ _ _ e]; exact h.lt i hi
  · intro i hi
    by_cases e : i = k
    · subst e; rw [put_same, h.Rup _ hu, h.Rup _ hi]
    · rw [put_other _ _ _ _ e]; exact h.Rup i hi
  · intro i hi
    by_cases e : R i = k
    · have := h.Rroot i hi; rw [e] at this; exact absurd this hne
    · rw [put_other _ _ _ _ e]; exact h.Rroot i hi
  · intro i hi hs
    by_cases e : i = k
    · subst e; rw [put_same] at hs; exact absurd hs hne2
    · rw [put_other _ _ _ _ e] at hs; exact h.self i hi hs
  · intro i hi hs
    by_cases e : i = k
    · subst e; rw [put_same]; omega
    · rw [put_other _ _ _ _ e] at hs ⊢; exact h.grow i hi hs

/-- x: of each number the least one of its set. -/
structure Good (n : Nat) (up sz ls R : Nat → Nat) (x : List Nat) : Prop where
  forest : Forest n up sz R
  len : x.length = n
  val : ∀ i, i < n → x[i]? = some (ls (R i))
  inj : ∀ i j, i < n → j < n → ls (R i) = ls (R j) → R i = R j
  cnt : ∀ i, i < n → sz (R i) = x.count (ls (R i))
  least : ∀ i, i < n → ls (R i) ≤ i ∧ x[ls (R i)]? = some (ls (R i))

def joinX (x : List Nat) (a b : Nat) : List Nat :=
  x.map fun v => if v = max (x[a]?.getD 0) (x[b]?.getD 0) then min (x[a]?.getD 0) (x[b]?.getD 0) else v

/-- how many numbers are the least ones of their sets -/
def cntTo (x : List Nat) : Nat → Nat
  | 0 => 0
  | k + 1 => cntTo x k + if x[k]? = some k then 1 else 0
def cntX (x : List Nat) : Nat := cntTo x x.length

theorem cntTo_le (x : List Nat) (k : Nat) : cntTo x k ≤ k := by
  induction k with
  | zero => simp [cntTo]
  | succ k ih => simp only [cntTo]; split <;> omega

theorem joinX_len (x : List Nat) (a b : Nat) : (joinX x a b).length = x.length := by simp [joinX]

theorem joinX_same (x : List Nat) (a b : Nat) (h : x[a]?.getD 0 = x[b]?.getD 0) : joinX x a b = x := by
  unfold joinX
  rw [h]
  simp only [Nat.max_self, Nat.min_self]
  have : (fun v => if v = x[b]?.getD 0 then x[b]?.getD 0 else v) = id := by
    funext v; by_cases e : v = x[b]?.getD 0 <;> simp [e]
  rw [this]; simp

theorem count_map_if (x : List Nat) (lo hi : Nat) (hne : lo ≠ hi) : (x.map fun v => if v = hi then lo else v).count lo = x.count lo + x.count hi := by
  induction x with
  | nil => simp
  | cons v x ih =>
    rw [List.map_cons, List.count_cons, List.count_cons, List.count_cons, ih]
    by_cases e : v = hi
    · subst e
      simp [hne.symm]
      omega
    · have e' : (v == hi) = false := by simpa using e
      simp only [e, if_false, e', Bool.false_eq_true]
      omega

theorem count_map_other (x : List Nat) (lo hi c : Nat) (h1 : c ≠ lo) (h2 : c ≠ hi) : (x.map fun v => if v = hi then lo else v).count c = x.count c := by
  induction x with
  | nil => simp
  | cons v x ih =>
    rw [List.map_cons, List.count_cons, List.count_cons, ih]
    by_cases e : v = hi
    · subst e
      have e1 : (lo == c) = false := by simpa using Ne.symm h1
      have e2 : (v == c) = false := by simpa using Ne.symm h2
      simp [e1, e2]
    · simp only [e, if_false]

theorem map_pos {x : List Nat} {i v : Nat} (f : Nat → Nat) (h : x[i]? = some v) : (x.map f)[i]? = some (f v) := by simp [h]

theorem cntTo_join (x : List Nat) (lo hi : Nat) (hlt : lo < hi) (hx : ∀ (i v : Nat), x[i]? = some v → v ≤ i) (hhi : x[hi]? = some hi) : ∀ k,
    cntTo (x.map fun v => if v = hi then lo else v) k + (if hi < k then 1 else 0) = cntTo x k := by
  intro k
  induction k with
  | zero => simp [cntTo]
  | succ k ih =>
    simp only [cntTo]
    by_cases e : k = hi
    · subst e
      have h1 : (x.map fun v => if v = k then lo else v)[k]? = some lo := by rw [map_pos _ hhi]; simp
      rw [h1, hhi]
      have : ¬ (some lo = some k) := by simp; omega
      rw [if_neg this, if_pos rfl]
      simp at ih ⊢
      omega
    · have hk : (hi < k + 1) ↔ (hi < k) := by omega
      simp only [hk]
      have : ((x.map fun v => if v = hi then lo else v)[k]? = some k) ↔ (x[k]? = some k) := by
        cases hxk : x[k]? with
        | none => simp [hxk]
        | some v =>
          rw [map_pos _ hxk]
          by_cases ev : v = hi
          · subst ev
            have := hx _ _ hxk
            simp
            omega
          · simp [ev]
      simp only [this]
      omega

theorem Good.le {n up sz ls R x} (h : Good n up sz ls R x) : ∀ (i v : Nat), x[i]? = some v → v ≤ i := by
  intro i v hv
  have hi : i < n := by
    rw [← h.len]; exact (List.getElem?_eq_some_iff.1 hv).1
  have := h.val i hi
  rw [this] at hv
  obtain rfl := Option.some.inj hv
  exact (h.least i hi).1

theorem Good.halve {n up sz ls R x} (h : Good n up sz ls R x) {up'} (hf : Forest n up' sz R) : Good n up' sz ls R x :=
  ⟨hf, h.len, h.val, h.inj, h.cnt, h.least⟩

theorem Good.getD {n up sz ls R x} (h : Good n up sz ls R x) {i : Nat} (hi : i < n) : x[i]?.getD 0 = ls (R i) := by rw [h.val i hi]; rfl

theorem Good.same {n up sz ls R x} (h : Good n up sz ls R x) {i j : Nat} (hi : i < n) (hj : j < n) : R i = R j ↔ x[i]?.getD 0 = x[j]?.getD 0 := by
  rw [h.getD hi, h.getD hj]
  exact ⟨fun e => by rw [e], h.inj i j hi hj⟩

/-- Two sets are one: the root B comes under the root A. -/
theorem Good.join {n : Nat} {up sz ls R : Nat → Nat} {x : List Nat} (h : Good n up sz ls R x) {A B : Nat} (hA : A < n) (hB : B < n) (rA : R A = A) (rB : R B = B) (hne : A ≠ B) (hsz : sz B ≤ sz A) :
    Good n (put up B A) (put sz A (sz A + sz B)) (put ls A (min (ls A) (ls B))) (fun i => if R i = B then A else R i)
      (x.map fun v => if v = max (ls A) (ls B) then min (ls A) (ls B) else v) := by
  have hf := h.forest
  have upA : up A = A := by have := hf.Rroot A hA; rwa [rA] at this
  have upB : up B = B := by have := hf.Rroot B hB; rwa [rB] at this
  have lne : ls A ≠ ls B := fun e => hne (by have := h.inj A B hA hB (by rw [rA, rB]; exact e); rwa [rA, rB] at this)
  have cA := h.cnt A hA
  have cB := h.cnt B hB
  rw [rA] at cA
  rw [rB] at cB
  have xA := h.val A hA
  have xB := h.val B hB
  have lA := h.least A hA
  have lB := h.least B hB
  rw [rA] at xA lA
  rw [rB] at xB lB
  have pB := hf.pos B hB
  have pA := hf.pos A hA
  -- of each number the new value
  have hval : ∀ i, i < n → (x.map fun v => if v = max (ls A) (ls B) then min (ls A) (ls B) else v)[i]? = some (put ls A (min (ls A) (ls B)) (if R i = B then A else R i)) := by
    intro i hi
    rw [map_pos _ (h.val i hi)]
    congr 1
    by_cases e1 : R i = B
    · rw [if_pos e1, put_same, e1]
      by_cases e : ls B = max (ls A) (ls B)
      · rw [if_pos e]
      · rw [if_neg e]; omega
    · rw [if_neg e1]
      by_cases e2 : R i = A
      · rw [e2, put_same]
        by_cases e : ls A = max (ls A) (ls B)
        · rw [if_pos e]
        · rw [if_neg e]; omega
      · rw [put_other _ _ _ _ e2]
        have n1 : ls (R i) ≠ ls A := fun e => e2 (by have := h.inj i A hi hA (by rw [rA]; exact e); rwa [rA] at this)
        have n2 : ls (R i) ≠ ls B := fun e => e1 (by have := h.inj i B hi hB (by rw [rB]; exact e); rwa [rB] at this)
        rw [if_neg (by omega)]
  have hcount : (x.map fun v => if v = max (ls A) (ls B) then min (ls A) (ls B) else v).count (min (ls A) (ls B)) = sz A + sz B := by
    rw [count_map_if _ _ _ (by omega), cA, cB]
    rcases Nat.lt_or_gt_of_ne lne with e | e
    · rw [Nat.min_eq_left (by omega), Nat.max_eq_right (by omega)]
    · rw [Nat.min_eq_right (by omega), Nat.max_eq_left (by omega)]; omega
  refine ⟨⟨?_, ?_, ?_, ?_, ?_, ?_, ?_, ?_⟩, ?_, hval, ?_, ?_, ?_⟩
  · intro i hi
    by_cases e : i = B
    · subst e; rw [put_same]; exact hA
    · rw [put_other _ _ _ _ e]; exact hf.lt i hi
  · intro i hi
    try dsimp only
    split
    · exact hA
    · exact hf.Rlt i hi
  · intro i hi
    by_cases e : i = B
    · subst e
      rw [put_same]
      try dsimp only
      rw [rA, if_neg hne, rB, if_pos rfl]
    · rw [put_other _ _ _ _ e]
      try dsimp only
      rw [hf.Rup i hi]
  · intro i hi
    try dsimp only
    by_cases e : R i = B
    · rw [if_pos e, put_other _ _ _ _ hne]; exact upA
    · rw [if_neg e, put_other _ _ _ _ e]; exact hf.Rroot i hi
  · intro i hi hs
    try dsimp only
    by_cases e : i = B
    · subst e; rw [put_same] at hs; exact absurd hs hne
    · rw [put_other _ _ _ _ e] at hs
      have := hf.self i hi hs
      rw [this, if_neg e]
  · intro i hi hs
    by_cases e : i = B
    · subst e
      rw [put_same, put_same, put_other _ _ _ _ hne.symm]
      omega
    · rw [put_other _ _ _ _ e] at hs ⊢
      have hg := hf.grow i hi hs
      have hiA : i ≠ A := fun e' => hs (by rw [e']; exact upA)
      rw [put_other _ _ _ _ hiA]
      by_cases e2 : up i = A
      · rw [e2, put_same]; rw [e2] at hg; omega
      · rw [put_other _ _ _ _ e2]; exact hg
  · intro i hi
    by_cases e : i = A
    · subst e; rw [put_same]; omega
    · rw [put_other _ _ _ _ e]; exact hf.pos i hi
  · intro i hi
    by_cases e : i = A
    · subst e
      rw [put_same, ← hcount]
      refine Nat.le_trans List.count_le_length ?_
      simp [h.len]
    · rw [put_other _ _ _ _ e]; exact hf.le i hi
  · simp [h.len]
  · -- inj
    intro i j hi hj
    try dsimp only
    have key : ∀ i, i < n → R i ≠ A → R i ≠ B → ls (R i) ≠ min (ls A) (ls B) := by
      intro i hi e2 e1 e
      have n1 : ls (R i) ≠ ls A := fun e => e2 (by have := h.inj i A hi hA (by rw [rA]; exact e); rwa [rA] at this)
      have n2 : ls (R i) ≠ ls B := fun e => e1 (by have := h.inj i B hi hB (by rw [rB]; exact e); rwa [rB] at this)
      omega
    by_cases i1 : R i = B <;> by_cases j1 : R j = B
    · rw [if_pos i1, if_pos j1]; intro _; rfl
    · rw [if_pos i1, if_neg j1, put_same]
      by_cases j2 : R j = A
      · intro _; exact j2.symm
      · rw [put_other _ _ _ _ j2]; intro e; exact absurd e.symm (key j hj j2 j1)
    · rw [if_neg i1, if_pos j1, put_same]
      by_cases i2 : R i = A
      · intro _; exact i2
      · rw [put_other _ _ _ _ i2]; intro e; exact absurd e (key i hi i2 i1)
    · rw [if_neg i1, if_neg j1]
      by_cases i2 : R i = A <;> by_cases j2 : R j = A
      · intro _; rw [i2, j2]
      · rw [i2, put_same, put_other _ _ _ _ j2]; intro e; exact absurd e.symm (key j hj j2 j1)
      · rw [j2, put_same, put_other _ _ _ _ i2]; intro e; exact absurd e (key i hi i2 i1)
      · rw [put_other _ _ _ _ i2, put_other _ _ _ _ j2]; exact h.inj i j hi hj
  · -- cnt
    intro i hi
    try dsimp only
    by_cases i1 : R i = B
    · rw [if_pos i1, put_same, put_same, hcount]
    · rw [if_neg i1]
      by_cases i2 : R i = A
      · rw [i2, put_same, put_same, hcount]
      · rw [put_other _ _ _ _ i2, put_other _ _ _ _ i2, h.cnt i hi]
        have n1 : ls (R i) ≠ ls A := fun e => i2 (by have := h.inj i A hi hA (by rw [rA]; exact e); rwa [rA] at this)
        have n2 : ls (R i) ≠ ls B := fun e => i1 (by have := h.inj i B hi hB (by rw [rB]; exact e); rwa [rB] at this)
        rw [count_map_other _ _ _ _ (by omega) (by omega)]
  · -- least
    intro i hi
    try dsimp only
    have hmin : (x.map fun v => if v = max (ls A) (ls B) then min (ls A) (ls B) else v)[min (ls A) (ls B)]? = some (min (ls A) (ls B)) := by
      rcases Nat.lt_or_gt_of_ne lne with e | e
      · rw [Nat.min_eq_left (by omega), map_pos _ lA.2, if_neg (by omega)]
      · rw [Nat.min_eq_right (by omega), map_pos _ lB.2, if_neg (by omega)]
    by_cases i1 : R i = B
    · rw [if_pos i1, put_same]
      have := (h.least i hi).1
      rw [i1] at this
      exact ⟨by omega, hmin⟩
    · rw [if_neg i1]
      by_cases i2 : R i = A
      · rw [i2, put_same]
        have := (h.least i hi).1
        rw [i2] at this
        exact ⟨by omega, hmin⟩
      · rw [put_other _ _ _ _ i2]
        have n1 : ls (R i) ≠ ls A := fun e => i2 (by have := h.inj i A hi hA (by rw [rA]; exact e); rwa [rA] at this)
        have n2 : ls (R i) ≠ ls B := fun e => i1 (by have := h.inj i B hi hB (by rw [rB]; exact e); rwa [rB] at this)
        refine ⟨(h.least i hi).1, ?_⟩
        rw [map_pos _ (h.least i hi).2, if_neg (by omega)]

theorem cntX_join {n up sz ls R x} (h : Good n up sz ls R x) {A B : Nat} (hA : A < n) (hB : B < n) (rA : R A = A) (rB : R B = B) (hne : A ≠ B) :
    cntX (x.map fun v => if v = max (ls A) (ls B) then min (ls A) (ls B) else v) + 1 = cntX x := by
  have lne : ls A ≠ ls B := fun e => hne (by have := h.inj A B hA hB (by rw [rA, rB]; exact e); rwa [rA, rB] at this)
  have lA := h.least A hA
  have lB := h.least B hB
  rw [rA] at lA
  rw [rB] at lB
  have hmax : x[max (ls A) (ls B)]? = some (max (ls A) (ls B)) := by
    rcases Nat.lt_or_gt_of_ne lne with e | e
    · rw [Nat.max_eq_right (by omega)]; exact lB.2
    · rw [Nat.max_eq_left (by omega)]; exact lA.2
  have hlt : max (ls A) (ls B) < x.length := (List.getElem?_eq_some_iff.1 hmax).1
  have := cntTo_join x (min (ls A) (ls B)) (max (ls A) (ls B)) (by omega) h.le hmax x.length
  rw [if_pos hlt] at this
  unfold cntX
  simpa using this

theorem joinX_eq {n up sz ls R x} (h : Good n up sz ls R x) {a b : Nat} (ha : a < n) (hb : b < n) :
    joinX x a b = x.map fun v => if v = max (ls (R a)) (ls (R b)) then min (ls (R a)) (ls (R b)) else v := by
  unfold joinX; rw [h.getD ha, h.getD hb]

theorem joinX_eq' {n up sz ls R x} (h : Good n up sz ls R x) {a b : Nat} (ha : a < n) (hb : b < n) :
    joinX x a b = x.map fun v => if v = max (ls (R b)) (ls (R a)) then min (ls (R b)) (ls (R a)) else v := by
  rw [joinX_eq h ha hb, Nat.max_comm, Nat.min_comm]

/-- At first each one is a set by itself. -/
theorem good_new (n : Nat) : Good n (fun i => i) (fun _ => 1) (fun i => i) (fun i => i) (List.range n) := by
  refine ⟨⟨fun i h => h, fun i h => h, fun i h => rfl, fun i h => rfl, fun i h _ => rfl, fun i h e => absurd rfl e, fun i h => Nat.le_refl _, fun i h => by omega⟩, by simp, fun i h => by simp [h], fun i j _ _ e => e, fun i h => ?_, fun i h => ⟨Nat.le_refl _, by simp [h]⟩⟩
  try dsimp only
  have hp : (List.range n).Nodup := List.nodup_range
  have : i ∈ List.range n := by simpa using h
  rw [List.Nodup.count hp, if_pos this]

theorem cntTo_range (n k : Nat) (h : k ≤ n) : cntTo (List.range n) k = k := by
  induction k with
  | zero => rfl
  | succ k ih => simp only [cntTo]; rw [ih (by omega), if_pos (by rw [List.getElem?_range (by omega)])]

theorem cntX_range (n : Nat) : cntX (List.range n) = n := by
  unfold cntX; rw [List.length_range]; exact cntTo_range n n (Nat.le_refl _)

end Go.Proofs.Ytlafnjkcogdljaa
