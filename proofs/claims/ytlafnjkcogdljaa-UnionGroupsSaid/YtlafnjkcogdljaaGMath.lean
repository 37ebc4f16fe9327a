/- The sets as groups: of a list of least ones. Plain lists. -/
import Derived.Test.YtlafnjkcogdljaaMath
namespace Go.Proofs.Ytlafnjkcogdljaa

/-- x[i] is at most i, and is its own least one. -/
structure Leasts (x : List Nat) : Prop where
  le : ∀ (i v : Nat), x[i]? = some v → v ≤ i
  self : ∀ (i v : Nat), x[i]? = some v → x[v]? = some v

/-- the number of i's group -/
def num (x : List Nat) (i : Nat) : Nat := cntTo x (x[i]?.getD 0)

def grpTo (x : List Nat) (k m : Nat) : List Nat := (List.range k).filter fun i => decide (num x i = m)
def grp (x : List Nat) (m : Nat) : List Nat := grpTo x x.length m

theorem grpTo_succ (x : List Nat) (k m : Nat) : grpTo x (k + 1) m = grpTo x k m ++ if num x k = m then [k] else [] := by
  unfold grpTo
  rw [List.range_succ, List.filter_append]
  by_cases h : num x k = m <;> simp [h]

theorem cntTo_mono (x : List Nat) {a b : Nat} (h : a ≤ b) : cntTo x a ≤ cntTo x b := by
  induction b with
  | zero => have : a = 0 := by omega
            subst this; exact Nat.le_refl _
  | succ b ih =>
    by_cases e : a = b + 1
    · subst e; exact Nat.le_refl _
    · have := ih (by omega)
      simp only [cntTo]
      omega

theorem cntTo_root {x : List Nat} {r : Nat} (h : x[r]? = some r) : cntTo x (r + 1) = cntTo x r + 1 := by
  simp only [cntTo]; rw [if_pos h]

theorem root_inj {x : List Nat} {r s : Nat} (hr : x[r]? = some r) (hs : x[s]? = some s) (h : cntTo x r = cntTo x s) : r = s := by
  rcases Nat.lt_trichotomy r s with e | e | e
  · have := cntTo_mono x (show r + 1 ≤ s by omega)
    rw [cntTo_root hr] at this
    omega
  · exact e
  · have := cntTo_mono x (show s + 1 ≤ r by omega)
    rw [cntTo_root hs] at this
    omega

theorem root_mono {x : List Nat} {r s : Nat} (hs : x[s]? = some s) (h : cntTo x r < cntTo x s) : r < s := by
  rcases Nat.lt_trichotomy r s with e | e | e
  · exact e
  · subst e; omega
  · have := cntTo_mono x (show s + 1 ≤ r by omega)
    rw [cntTo_root hs] at this
    omega

theorem root_ex {x : List Nat} : ∀ (k m : Nat), m < cntTo x k → ∃ r, r < k ∧ x[r]? = some r ∧ cntTo x r = m := by
  intro k
  induction k with
  | zero => intro m h; simp [cntTo] at h
  | succ k ih =>
    intro m h
    by_cases h1 : m < cntTo x k
    · obtain ⟨r, hr, h2⟩ := ih m h1
      exact ⟨r, by omega, h2⟩
    · simp only [cntTo] at h
      split at h
      · rename_i hk
        exact ⟨k, by omega, hk, by omega⟩
      · omega

theorem num_lt {x : List Nat} (hx : Leasts x) {i : Nat} (hi : i < x.length) : num x i < cntX x := by
  have h : x[i]? = some x[i] := List.getElem?_eq_getElem hi
  unfold num
  rw [h]
  have hs := hx.self i _ h
  have := cntTo_mono x (show x[i] + 1 ≤ x.length from (List.getElem?_eq_some_iff.1 hs).1)
  rw [cntTo_root hs] at this
  show cntTo x x[i] < cntX x
  unfold cntX
  omega

/-- What a group is: r: its least one. -/
structure IsGroup (x : List Nat) (m r : Nat) (g : List Nat) : Prop where
  root : x[r]? = some r
  num : cntTo x r = m
  head : g[0]? = some r
  mem : ∀ (i a : Nat), g[i]? = some a → a < x.length ∧ x[a]? = some r
  rise : ∀ (i a b : Nat), g[i]? = some a → g[i + 1]? = some b → a < b

theorem filter_range_rise (p : Nat → Bool) (n i a b : Nat) (ha : ((List.range n).filter p)[i]? = some a) (hb : ((List.range n).filter p)[i + 1]? = some b) : a < b := by
  have hp : ((List.range n).filter p).Pairwise (· < ·) := List.Pairwise.filter p List.pairwise_lt_range
  obtain ⟨h1, e1⟩ := List.getElem?_eq_some_iff.1 ha
  obtain ⟨h2, e2⟩ := List.getElem?_eq_some_iff.1 hb
  have := List.pairwise_iff_getElem.1 hp i (i + 1) h1 h2 (by omega)
  rw [e1, e2] at this
  exact this

theorem grp_is {x : List Nat} (hx : Leasts x) {m : Nat} (hm : m < cntX x) : ∃ r, IsGroup x m r (grp x m) := by
  obtain ⟨r, hr, hroot, hnum⟩ := root_ex x.length m hm
  have hin : ∀ a, a ∈ grp x m ↔ a < x.length ∧ x[a]? = some r := by
    intro a
    unfold grp grpTo
    rw [List.mem_filter, List.mem_range, decide_eq_true_eq]
    constructor
    · rintro ⟨h1, h2⟩
      refine ⟨h1, ?_⟩
      have h : x[a]? = some x[a] := List.getElem?_eq_getElem h1
      unfold num at h2
      rw [h] at h2 ⊢
      rw [root_inj (hx.self a _ h) hroot (by rw [hnum]; exact h2)]
    · rintro ⟨h1, h2⟩
      refine ⟨h1, ?_⟩
      unfold num
      rw [h2]
      exact hnum
  have hrise : ∀ (i a b : Nat), (grp x m)[i]? = some a → (grp x m)[i + 1]? = some b → a < b := fun i a b => filter_range_rise _ _ i a b
  have hrin : r ∈ grp x m := (hin r).2 ⟨hr, hroot⟩
  refine ⟨r, hroot, hnum, ?_, fun i a h => (hin a).1 (List.mem_of_getElem? h), hrise⟩
  cases hg : grp x m with
  | nil => rw [hg] at hrin; simp at hrin
  | cons a t =>
    have ha : a ∈ grp x m := by rw [hg]; exact List.mem_cons_self
    have hxa := ((hin a).1 ha).2
    have hle := hx.le a r hxa
    by_cases e : a = r
    · subst e; rfl
    · rw [hg] at hrin
      have hrt : r ∈ t := by
        rcases List.mem_cons.1 hrin with h | h
        · exact absurd h.symm e
        · exact h
      have hp : (grp x m).Pairwise (· < ·) := List.Pairwise.filter _ List.pairwise_lt_range
      rw [hg] at hp
      have := (List.pairwise_cons.1 hp).1 r hrt
      omega

def sumLen (x : List Nat) : Nat → Nat
  | 0 => 0
  | m + 1 => sumLen x m + (grp x m).length

def sumF (f : Nat → Nat) (l : List Nat) : Nat → Nat
  | 0 => 0
  | m + 1 => sumF f l m + (l.filter fun i => decide (f i = m)).length

theorem sumF_nil (f : Nat → Nat) (c : Nat) : sumF f [] c = 0 := by
  induction c with
  | zero => rfl
  | succ c ih => simp [sumF, ih]

theorem sumF_cons (f : Nat → Nat) (a : Nat) (l : List Nat) (c : Nat) : sumF f (a :: l) c = sumF f l c + if f a < c then 1 else 0 := by
  induction c with
  | zero => simp [sumF]
  | succ c ih =>
    simp only [sumF]
    rw [ih, List.filter_cons]
    by_cases e : f a = c
    · subst e
      simp
      omega
    · have e1 : decide (f a = c) = false := decide_eq_false e
      rw [e1]
      simp only [Bool.false_eq_true, if_false]
      by_cases e2 : f a < c
      · rw [if_pos e2, if_pos (by omega)]; omega
      · rw [if_neg e2, if_neg (by omega)]; omega

theorem sumF_all (f : Nat → Nat) (c : Nat) : ∀ l : List Nat, (∀ a, a ∈ l → f a < c) → sumF f l c = l.length
  | [], _ => sumF_nil f c
  | a :: l, h => by
    rw [sumF_cons, sumF_all f c l (fun b hb => h b (List.mem_cons_of_mem _ hb)), if_pos (h a List.mem_cons_self)]
    rfl

theorem sumLen_eq (x : List Nat) (c : Nat) : sumLen x c = sumF (num x) (List.range x.length) c := by
  induction c with
  | zero => rfl
  | succ c ih => simp only [sumLen, sumF]; rw [ih]; rfl

theorem sumLen_all {x : List Nat} (hx : Leasts x) : sumLen x (cntX x) = x.length := by
  rw [sumLen_eq, sumF_all (num x) (cntX x) _ (fun a ha => num_lt hx (by simpa using ha))]
  simp

theorem sumLen_mono (x : List Nat) {a b : Nat} (h : a ≤ b) : sumLen x a ≤ sumLen x b := by
  induction b with
  | zero => have : a = 0 := by omega
            subst this; exact Nat.le_refl _
  | succ b ih =>
    by_cases e : a = b + 1
    · subst e; exact Nat.le_refl _
    · have := ih (by omega)
      simp only [sumLen]
      omega

end Go.Proofs.Ytlafnjkcogdljaa
