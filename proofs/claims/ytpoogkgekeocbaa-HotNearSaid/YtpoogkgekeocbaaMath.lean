/- Points in order, in plain lists. -/
import Derived.Test.YtpoogkgekeocbaaA
namespace Go.Proofs.Ytpoogkgekeocbaa
open Go.RowKit

theorem ltP_asymm {t : Bool} {a b : Pt} (h : ltP t a b) : ¬ ltP t b a := fun g => ltP_irrefl t a (ltP_trans h g)

def Sorted (t : Bool) (l : List Pt) : Prop := l.Pairwise fun a b => ¬ ltP t b a

theorem sorted_unique {t : Bool} : ∀ {a b : List Pt}, Sorted t a → Sorted t b → a.Perm b → a = b
  | [], b, _, _, h => by have := h.length_eq; exact (List.eq_nil_of_length_eq_zero (by simpa using this.symm)).symm
  | x :: a, [], _, _, h => by have := h.length_eq; simp at this
  | x :: a, y :: b, ha, hb, h => by
    have h1 := List.pairwise_cons.1 ha
    have h2 := List.pairwise_cons.1 hb
    have hxy : x = y := by
      have hx : x ∈ y :: b := h.mem_iff.1 List.mem_cons_self
      have hy : y ∈ x :: a := h.mem_iff.2 List.mem_cons_self
      rcases ltP_tri t x y with e | e | e
      · rcases List.mem_cons.1 hx with e2 | e2
        · exact e2
        · exact absurd e (h2.1 x e2)
      · exact e
      · rcases List.mem_cons.1 hy with e2 | e2
        · exact e2.symm
        · exact absurd e (h1.1 y e2)
    subst hxy
    rw [sorted_unique h1.2 h2.2 (List.Perm.cons_inv h)]

def mergeP (t : Bool) : List Pt → List Pt → List Pt
  | [], b => b
  | a :: l, [] => a :: l
  | a :: l, b :: r => if ltP t b a then b :: mergeP t (a :: l) r else a :: mergeP t l (b :: r)
termination_by a b => a.length + b.length

theorem mergeP_nil_right (t : Bool) (a : List Pt) : mergeP t a [] = a := by
  cases a <;> simp [mergeP]

theorem mergeP_perm (t : Bool) : ∀ (a b : List Pt), (mergeP t a b).Perm (a ++ b)
  | [], b => by simp only [mergeP, List.nil_append]; exact List.Perm.refl _
  | a :: l, [] => by simp only [mergeP, List.append_nil]; exact List.Perm.refl _
  | a :: l, b :: r => by
    simp only [mergeP]
    split
    · have h := mergeP_perm t (a :: l) r
      refine (List.Perm.cons b h).trans ?_
      exact (List.perm_middle (a := b) (l₁ := a :: l) (l₂ := r)).symm
    · exact List.Perm.cons a (mergeP_perm t l (b :: r))
termination_by a b => a.length + b.length

theorem mergeP_len (t : Bool) (a b : List Pt) : (mergeP t a b).length = a.length + b.length := by rw [(mergeP_perm t a b).length_eq, List.length_append]

theorem mergeP_sorted (t : Bool) : ∀ (a b : List Pt), Sorted t a → Sorted t b → Sorted t (mergeP t a b)
  | [], b, _, hb => by simp only [mergeP]; exact hb
  | a :: l, [], ha, _ => by simp only [mergeP]; exact ha
  | a :: l, b :: r, ha, hb => by
    have h1 := List.pairwise_cons.1 ha
    have h2 := List.pairwise_cons.1 hb
    simp only [mergeP]
    split
    · rename_i hlt
      refine List.pairwise_cons.2 ⟨fun y hy => ?_, mergeP_sorted t (a :: l) r ha h2.2⟩
      have hm := (mergeP_perm t (a :: l) r).mem_iff.1 hy
      rcases List.mem_append.1 hm with hm | hm
      · rcases List.mem_cons.1 hm with e | e
        · subst e; exact ltP_asymm hlt
        · intro hyb
          exact h1.1 y e (ltP_trans hyb hlt)
      · exact h2.1 y hm
    · rename_i hge
      refine List.pairwise_cons.2 ⟨fun y hy => ?_, mergeP_sorted t l (b :: r) h1.2 hb⟩
      have hm := (mergeP_perm t l (b :: r)).mem_iff.1 hy
      rcases List.mem_append.1 hm with hm | hm
      · exact h1.1 y hm
      · rcases List.mem_cons.1 hm with e | e
        · subst e; exact hge
        · intro hya
          rcases ltP_tri t a b with g | g | g
          · exact h2.1 y e (ltP_trans hya g)
          · subst g; exact h2.1 y e hya
          · exact hge g
termination_by a b => a.length + b.length

/-- the i-th piece of s -/
def piece (s i : Nat) (l : List Pt) : List Pt := (l.drop (i * s)).take s
/-- all pieces of s are in order -/
def Pieces (t : Bool) (s : Nat) (l : List Pt) : Prop := ∀ i, Sorted t (piece s i l)

theorem pieces_one (t : Bool) (l : List Pt) : Pieces t 1 l := by
  intro i
  unfold piece
  match h : (l.drop (i * 1)).take 1, (show ((l.drop (i * 1)).take 1).length ≤ 1 from by rw [List.length_take]; omega) with
  | [], _ => exact List.Pairwise.nil
  | [a], _ => exact List.pairwise_singleton _ _

theorem pieces_whole {t : Bool} {s : Nat} {l : List Pt} (h : Pieces t s l) (hs : l.length ≤ s) : Sorted t l := by
  have := h 0
  unfold piece at this
  rwa [Nat.zero_mul, List.drop_zero, List.take_of_length_le hs] at this

/-- A pass, j pieces of two done. -/
structure Pass (t : Bool) (s : Nat) (os : List Pt) (j : Nat) (nx : List Pt) : Prop where
  len : nx.length = min (j * (2 * s)) os.length
  perm : nx.Perm (os.take (j * (2 * s)))
  sorted : ∀ i, i < j → Sorted t (piece (2 * s) i nx)

theorem Pass.zero (t : Bool) (s : Nat) (os : List Pt) : Pass t s os 0 [] := ⟨by simp, by simp, fun i hi => absurd hi (Nat.not_lt_zero _)⟩

theorem Pass.next {t : Bool} {s : Nat} {os nx : List Pt} {j : Nat} (h : Pass t s os j nx) (hp : Pieces t s os) (hj : j * (2 * s) < os.length) {A B : List Pt} (hA : A = (os.drop (j * (2 * s))).take s) (hB : B = (os.drop (j * (2 * s) + s)).take s) :
    Pass t s os (j + 1) (nx ++ mergeP t A B) := by
  have e1 : (j + 1) * (2 * s) = j * (2 * s) + 2 * s := by rw [Nat.succ_mul]
  have sA : Sorted t A := by
    have := hp (2 * j)
    unfold piece at this
    rwa [show 2 * j * s = j * (2 * s) from by rw [Nat.mul_comm 2 j, Nat.mul_assoc], ← hA] at this
  have sB : Sorted t B := by
    have := hp (2 * j + 1)
    unfold piece at this
    rwa [show (2 * j + 1) * s = j * (2 * s) + s from by rw [Nat.succ_mul, Nat.mul_comm 2 j, Nat.mul_assoc], ← hB] at this
  have eAB : A ++ B = (os.drop (j * (2 * s))).take (2 * s) := by
    rw [hA, hB, show 2 * s = s + s from by omega, List.take_add, List.drop_drop]
  have hl := h.len
  have hnl : nx.length = j * (2 * s) := by rw [hl]; omega
  refine ⟨?_, ?_, ?_⟩
  · rw [List.length_append, mergeP_len, ← List.length_append, eAB, List.length_take, List.length_drop, e1, hnl] <;> omega
  · rw [e1, List.take_add]
    refine List.Perm.append h.perm ?_
    rw [← eAB]
    exact mergeP_perm t A B
  · intro i hi
    by_cases hij : i = j
    · subst hij
      unfold piece
      rw [List.drop_append, List.drop_of_length_le (by omega), List.nil_append, hnl, Nat.sub_self, List.drop_zero]
      exact (mergeP_sorted t A B sA sB).sublist (List.take_sublist _ _)
    · have := h.sorted i (by omega)
      have hle : (i + 1) * (2 * s) ≤ j * (2 * s) := Nat.mul_le_mul_right _ (by omega)
      rw [Nat.succ_mul] at hle
      unfold piece at this ⊢
      rw [List.drop_append_of_le_length (by omega), List.take_append_of_le_length (by rw [List.length_drop]; omega)]
      exact this

theorem Pass.done {t : Bool} {s : Nat} {os nx : List Pt} {j : Nat} (h : Pass t s os j nx) (hj : os.length ≤ j * (2 * s)) : Pieces t (2 * s) nx ∧ nx.Perm os ∧ nx.length = os.length := by
  have hl := h.len
  refine ⟨fun i => ?_, ?_, by omega⟩
  · by_cases hij : i < j
    · exact h.sorted i hij
    · have : j * (2 * s) ≤ i * (2 * s) := Nat.mul_le_mul_right _ (by omega)
      unfold piece
      rw [List.drop_of_length_le (by omega), List.take_nil]
      exact List.Pairwise.nil
  · have := h.perm
    rwa [List.take_of_length_le hj] at this

theorem take_alike {l : List Pt} {n m : Nat} (h : n = m ∨ (l.length ≤ n ∧ l.length ≤ m)) : l.take n = l.take m := by
  rcases h with rfl | ⟨h1, h2⟩
  · rfl
  · rw [List.take_of_length_le h1, List.take_of_length_le h2]

end Go.Proofs.Ytpoogkgekeocbaa
