/- Sort: the passes, in plain lists. -/
import Derived.Test.YtkfolfkgjpcmiaaD
namespace Go.Proofs.Ytkfolfkgjpcmiaa
open Go.RowKit

theorem mergeK_len : ∀ (a b : List Int), (mergeK key a b).length = a.length + b.length
  | [], b => by simp [mergeK]
  | a :: l, [] => by simp [mergeK]
  | a :: l, b :: r => by
    simp only [mergeK]
    split
    · rw [List.length_cons, mergeK_len (a :: l) r]; simp only [List.length_cons]; omega
    · rw [List.length_cons, mergeK_len l (b :: r)]; simp only [List.length_cons]; omega
termination_by a b => a.length + b.length

/-- the i-th piece of s -/
def piece (s i : Nat) (l : List Int) : List Int := (l.drop (i * s)).take s
/-- all pieces of s are in order -/
def Pieces (s : Nat) (l : List Int) : Prop := ∀ i, Sorted key (piece s i l)

theorem pieces_one (l : List Int) : Pieces 1 l := by
  intro i
  unfold piece
  match h : (l.drop (i * 1)).take 1, (show ((l.drop (i * 1)).take 1).length ≤ 1 from by rw [List.length_take]; omega) with
  | [], _ => exact List.Pairwise.nil
  | [a], _ => exact List.pairwise_singleton _ _

theorem pieces_whole {s : Nat} {l : List Int} (h : Pieces s l) (hs : l.length ≤ s) : Sorted key l := by
  have := h 0
  unfold piece at this
  rwa [Nat.zero_mul, List.drop_zero, List.take_of_length_le hs] at this

/-- A pass, j pieces of two done. -/
structure Pass (s : Nat) (os : List Int) (j : Nat) (nx : List Int) : Prop where
  len : nx.length = min (j * (2 * s)) os.length
  alike : Alike key nx (os.take (j * (2 * s)))
  sorted : ∀ i, i < j → Sorted key (piece (2 * s) i nx)

theorem Pass.zero (s : Nat) (os : List Int) : Pass s os 0 [] := ⟨by simp, by rw [Nat.zero_mul, List.take_zero]; exact Alike.refl _, fun i hi => absurd hi (Nat.not_lt_zero _)⟩

theorem Pass.next {s : Nat} {os nx : List Int} {j : Nat} (h : Pass s os j nx) (hp : Pieces s os) (hj : j * (2 * s) < os.length) {A B : List Int} (hA : A = (os.drop (j * (2 * s))).take s) (hB : B = (os.drop (j * (2 * s) + s)).take s) :
    Pass s os (j + 1) (nx ++ mergeK key A B) := by
  have e1 : (j + 1) * (2 * s) = j * (2 * s) + 2 * s := by rw [Nat.succ_mul]
  have sA : Sorted key A := by
    have := hp (2 * j)
    unfold piece at this
    rwa [show 2 * j * s = j * (2 * s) from by rw [Nat.mul_comm 2 j, Nat.mul_assoc], ← hA] at this
  have sB : Sorted key B := by
    have := hp (2 * j + 1)
    unfold piece at this
    rwa [show (2 * j + 1) * s = j * (2 * s) + s from by rw [Nat.succ_mul, Nat.mul_comm 2 j, Nat.mul_assoc], ← hB] at this
  have eAB : A ++ B = (os.drop (j * (2 * s))).take (2 * s) := by
    rw [hA, hB, show 2 * s = s + s from by omega, List.take_add, List.drop_drop]
  have hl := h.len
  have hnl : nx.length = j * (2 * s) := by rw [hl]; omega
  refine ⟨?_, ?_, ?_⟩
  · rw [List.length_append, mergeK_len, ← List.length_append, eAB, List.length_take, List.length_drop, e1, hnl]; omega
  · rw [e1, List.take_add]
    refine h.alike.append ?_
    rw [← eAB]
    exact mergeK_alike A B sA sB
  · intro i hi
    by_cases hij : i = j
    · subst hij
      unfold piece
      rw [List.drop_append, List.drop_of_length_le (by omega), List.nil_append, hnl, Nat.sub_self, List.drop_zero]
      exact (mergeK_sorted A B sA sB).sublist (List.take_sublist _ _)
    · have := h.sorted i (by omega)
      have hle : (i + 1) * (2 * s) ≤ j * (2 * s) := Nat.mul_le_mul_right _ (by omega)
      rw [Nat.succ_mul] at hle
      unfold piece at this ⊢
      rw [List.drop_append_of_le_length (by omega), List.take_append_of_le_length (by rw [List.length_drop]; omega)]
      exact this

theorem Pass.done {s : Nat} {os nx : List Int} {j : Nat} (h : Pass s os j nx) (hj : os.length ≤ j * (2 * s)) : Pieces (2 * s) nx ∧ Alike key nx os ∧ nx.length = os.length := by
  have hl := h.len
  refine ⟨fun i => ?_, ?_, by omega⟩
  · by_cases hij : i < j
    · exact h.sorted i hij
    · have : j * (2 * s) ≤ i * (2 * s) := Nat.mul_le_mul_right _ (by omega)
      unfold piece
      rw [List.drop_of_length_le (by omega), List.take_nil]
      exact List.Pairwise.nil
  · have := h.alike
    rwa [List.take_of_length_le hj] at this

/-- 'l[lo:hi]' -/
theorem View.slice {w : World} {p : Option Addr} {cap : Nat} {xs : List Int} (h : View w p cap xs) {lo hi : Nat} (h1 : lo ≤ hi) (h2 : hi ≤ xs.length) (hp : p ≠ none) : View w (if cap = lo then p else p.map (·.add lo)) (cap - lo) ((xs.drop lo).take (hi - lo)) := by
  have hle := h.le
  have hl : ((xs.drop lo).take (hi - lo)).length = hi - lo := by rw [List.length_take, List.length_drop]; omega
  refine ⟨by omega, by have := h.max; omega, fun e => ?_, fun i y hi' => ?_⟩
  · exfalso
    split at e
    · exact hp e
    · cases p with
      | none => exact hp rfl
      | some a => cases e
  · have hil : i < hi - lo := by rw [← hl]; exact (List.getElem?_eq_some_iff.1 hi').1
    have get : ∀ j z, ((xs.drop lo).take (hi - lo))[j]? = some z → xs[lo + j]? = some z := by
      intro j z hz
      have hjl : j < hi - lo := by rw [← hl]; exact (List.getElem?_eq_some_iff.1 hz).1
      rwa [List.getElem?_take_of_lt hjl, List.getElem?_drop] at hz
    obtain ⟨b, off, hb, hlt, hc⟩ := h.cells (lo + i) y (get i y hi')
    rw [if_neg (by omega), hb]
    refine ⟨b, off + lo, by rw [Option.map_some, add_flat], hlt, fun j z hz => ?_⟩
    rw [Nat.add_assoc]
    exact hc (lo + j) z (get j z hz)

theorem View.slice2 {w : World} {b off cap : Nat} {xs : List Int} (h : View w (some ⟨b, off, none⟩) cap xs) {lo hi k : Nat} {p : Option Addr} (h1 : lo ≤ hi) (h2 : hi ≤ xs.length) (hp : (¬ cap = lo ∧ p = some ⟨b, off + lo, none⟩) ∨ (cap = lo ∧ p = some ⟨b, off, none⟩)) (hk : k = cap - lo) : View w p k ((xs.drop lo).take (hi - lo)) := by
  have := h.slice h1 h2 (by simp)
  rw [← hk] at this
  rcases hp with ⟨hn, rfl⟩ | ⟨hn, rfl⟩
  · rw [if_neg hn, Option.map_some, add_flat] at this; exact this
  · rw [if_pos hn] at this; exact this

theorem take_alike {l : List Int} {n m : Nat} (h : n = m ∨ (l.length ≤ n ∧ l.length ≤ m)) : l.take n = l.take m := by
  rcases h with rfl | ⟨h1, h2⟩
  · rfl
  · rw [List.take_of_length_le h1, List.take_of_length_le h2]

theorem merge_any' (p q : Option Addr) (c d n m : Nat) (xs ys : List Int) (w : World) (hx : View w p c xs) (hy : View w q d ys) (hn : xs.length + ys.length ≤ 1048576) (h1 : xs.length = n) (h2 : ys.length = m) :
    Calls Try.prog 15 #[.slice p n c, .slice q m d, .func (.func 11) #[] #[]] w fun e w' => (∃ v, e = .returned v ∧ Own w' w.heap.size v (mergeK key xs ys)) ∧ Upd [] w w' := by
  subst h1 h2
  exact merge_any p q c d xs ys w hx hy hn

/-- 'append(out, xs...)', inside a region that draws its order. -/
theorem step_append_view {ops : Array Oper} {o : Oper} {a : Act} {K : Act → World → Prop} {Q : Exit → Act → World → Prop} {E : Prop} {w : World} (hgd : o.guard = none) (s x : Operand)
    (ho : o.op = .call { callee := .builtin .append, args := #[s, x], argTypes := #[22, 22] })
    (w0 : World) (v : Value) (xs ys : List Int) (vx : Value) (hs : a.eval s = v) (hx : a.eval x = vx) (hown : Own w w0.heap.size v xs) (B : Nat) (hv : Own w B vx ys) (hu : Upd [] w0 w) (hn : xs.length + ys.length ≤ 1048576)
    (h : ∀ v' w', Own w' w0.heap.size v' (xs ++ ys) → Upd [] w0 w' → K (a.put o.dst v') w') :
    if Region.wanted o (yielded ops a.tmps) = true then Oper.wp Try.prog o a w K Q else E := by
  have hw : Region.wanted o (yielded ops a.tmps) = true := by simp [Region.wanted, hgd]
  rw [if_pos hw]
  obtain ⟨p, cap, hvx, hvv⟩ := hv.view
  obtain ⟨v', w', hr, h2, h3⟩ := run_append_view hown hvv hu.size hn o.type
  have h5 := own_grown hown h3 hu (Nat.le_refl _)
  rw [hvx] at hx
  unfold Oper.wp execOp
  simp only [ho, resolve, invoke, builtin, Sem.run_bind, Sem.run_pure, Result.andThen_ok, List.map_toArray, List.map_cons, List.map_nil, hs, hx, hr]
  exact h _ w' h2 h5

end Go.Proofs.Ytkfolfkgjpcmiaa
