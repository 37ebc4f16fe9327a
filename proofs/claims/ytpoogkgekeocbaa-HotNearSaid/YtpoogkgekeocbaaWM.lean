/- What Near tells, row by row. -/
import Derived.Test.YtpoogkgekeocbaaFK
namespace Go.Proofs.Ytpoogkgekeocbaa

def btw (lo hi d : Pt) : Bool := decide (lo.1 ≤ d.1 ∧ d.1 ≤ hi.1 ∧ lo.2 ≤ d.2 ∧ d.2 ≤ hi.2)
def WW (lo hi : Pt) (qs : List RowT) (i : Nat) : List Pt := (flat (qs.take i)).filter (btw lo hi)
def VV (lo hi : Pt) (qs : List RowT) (i : Nat) (q : RowT) (k : Nat) : List Pt := WW lo hi qs i ++ ((q.2.take k).map fun x => (x, q.1)).filter (btw lo hi)
section
variable {lo hi : Pt} {qs : List RowT} {i k : Nat} {q : RowT} {x : Int} {U : List Pt}

theorem row_inc (h : Rows U qs) (hs : Strict true U) (hq : q ∈ qs) : q.2.Pairwise (· < ·) := by
  have h1 : (q.2.map fun x => (x, q.1)).Sublist U := by
    rw [← h.flat]
    exact List.sublist_flatten_of_mem (List.mem_map.2 ⟨q, hq, rfl⟩)
  have h2 := List.Pairwise.sublist h1 hs
  have h3 := List.pairwise_map.1 h2
  refine List.Pairwise.imp (fun {a b} hab => ?_) h3
  unfold ltP kd at hab
  simp only [if_true] at hab
  omega

theorem rows_up (h : Rows U qs) : (qs.map (·.1)).Pairwise (· < ·) := List.pairwise_map.2 h.up

theorem WW_zero : WW lo hi qs 0 = [] := rfl
theorem WW_end : WW lo hi qs qs.length = (flat qs).filter (btw lo hi) := by unfold WW; rw [List.take_length]
theorem WW_next (hq : qs[i]? = some q) : WW lo hi qs (i + 1) = WW lo hi qs i ++ (q.2.map fun x => (x, q.1)).filter (btw lo hi) := by
  unfold WW
  rw [List.take_add_one, hq, flat_append, List.filter_append]
  show _ ++ (flat [q]).filter _ = _
  rw [flat_one]
theorem VV_zero : VV lo hi qs i q 0 = WW lo hi qs i := by unfold VV; simp
theorem VV_end (hq : qs[i]? = some q) (hk : q.2.length ≤ k) : VV lo hi qs i q k = WW lo hi qs (i + 1) := by
  rw [WW_next hq]
  unfold VV
  rw [List.take_of_length_le hk]
theorem VV_next (hx : q.2[k]? = some x) : VV lo hi qs i q (k + 1) = VV lo hi qs i q k ++ (if btw lo hi (x, q.1) then [(x, q.1)] else []) := by
  unfold VV
  rw [List.take_add_one, hx, List.append_assoc]
  congr 1
  rw [List.map_append, List.filter_append]
  congr 1
  show List.filter (btw lo hi) [(x, q.1)] = _
  rw [List.filter_cons]
  split <;> simp_all

/-- rows below are out -/
theorem WW_low (h : ∀ (j : Nat) (q : RowT), j < i → qs[j]? = some q → q.1 < lo.2) : WW lo hi qs i = [] := by
  unfold WW
  refine List.filter_eq_nil_iff.2 fun d hd => ?_
  obtain ⟨q, hq, hx⟩ := List.mem_flatMap.1 hd
  obtain ⟨x, _, rfl⟩ := List.mem_map.1 hx
  obtain ⟨j, hj⟩ := List.mem_iff_getElem?.1 hq
  have hji : j < i := by
    have := (List.getElem?_eq_some_iff.1 hj).1
    rw [List.length_take] at this; omega
  rw [List.getElem?_take_of_lt hji] at hj
  have := h j q hji hj
  simp only [btw, decide_eq_true_eq]
  omega
/-- rows above are out -/
theorem WW_high (h : Rows U qs) (hq : qs[i]? = some q) (hh : hi.2 < q.1) : WW lo hi qs i = (flat qs).filter (btw lo hi) := by
  unfold WW
  have e : qs = qs.take i ++ qs.drop i := (List.take_append_drop i qs).symm
  have h0 : (flat (qs.drop i)).filter (btw lo hi) = [] := by
    refine List.filter_eq_nil_iff.2 fun d hd => ?_
    obtain ⟨r, hr, hx⟩ := List.mem_flatMap.1 hd
    obtain ⟨x, _, rfl⟩ := List.mem_map.1 hx
    obtain ⟨j, hj⟩ := List.mem_iff_getElem?.1 hr
    rw [List.getElem?_drop] at hj
    have hle : q.1 ≤ r.1 := by
      by_cases ej : j = 0
      · subst ej
        rw [Nat.add_zero, hq] at hj
        cases hj
        exact Int.le_refl _
      · obtain ⟨l1, e1⟩ := List.getElem?_eq_some_iff.1 hq
        obtain ⟨l2, e2⟩ := List.getElem?_eq_some_iff.1 hj
        have := List.pairwise_iff_getElem.1 h.up i (i + j) l1 l2 (by omega)
        rw [e1, e2] at this
        omega
    simp only [btw, decide_eq_true_eq]
    omega
  conv => rhs; rw [e, flat_append, List.filter_append, h0, List.append_nil]
/-- in a row, what is below is out -/
theorem VV_low {n : Nat} (h : AtK q.2 lo.1 n) : VV lo hi qs i q n = WW lo hi qs i := by
  unfold VV
  have h0 : ((q.2.take n).map fun x => (x, q.1)).filter (btw lo hi) = [] := by
    refine List.filter_eq_nil_iff.2 fun d hd => ?_
    obtain ⟨x, hx, rfl⟩ := List.mem_map.1 hd
    obtain ⟨j, hj⟩ := List.mem_iff_getElem?.1 hx
    have hjn : j < n := by
      have := (List.getElem?_eq_some_iff.1 hj).1
      rw [List.length_take] at this; omega
    rw [List.getElem?_take_of_lt hjn] at hj
    have := h.before j x hjn hj
    simp only [btw, decide_eq_true_eq]
    omega
  rw [h0, List.append_nil]
/-- in a row, what is above is out -/
theorem VV_high (hq : qs[i]? = some q) (hinc : q.2.Pairwise (· < ·)) (hx : q.2[k]? = some x) (hh : hi.1 < x) : VV lo hi qs i q k = WW lo hi qs (i + 1) := by
  rw [WW_next hq]
  unfold VV
  congr 1
  have e : q.2 = q.2.take k ++ q.2.drop k := (List.take_append_drop k q.2).symm
  have h0 : ((q.2.drop k).map fun x => (x, q.1)).filter (btw lo hi) = [] := by
    refine List.filter_eq_nil_iff.2 fun d hd => ?_
    obtain ⟨y, hy, rfl⟩ := List.mem_map.1 hd
    obtain ⟨j, hj⟩ := List.mem_iff_getElem?.1 hy
    rw [List.getElem?_drop] at hj
    have hle : x ≤ y := by
      by_cases ej : j = 0
      · subst ej
        rw [Nat.add_zero, hx] at hj
        cases hj
        exact Int.le_refl _
      · have := up_pair hinc (show k < k + j by omega) hx hj
        omega
    simp only [btw, decide_eq_true_eq]
    omega
  conv => rhs; rw [e, List.map_append, List.filter_append, h0, List.append_nil]
/-- what comes next -/
theorem VV_told (hq : qs[i]? = some q) (hx : q.2[k]? = some x) (hb : btw lo hi (x, q.1) = true) : ((flat qs).filter (btw lo hi))[(VV lo hi qs i q k).length]? = some (x, q.1) := by
  have hil := (List.getElem?_eq_some_iff.1 hq).1
  have hkl := (List.getElem?_eq_some_iff.1 hx).1
  have e : qs = qs.take (i + 1) ++ qs.drop (i + 1) := (List.take_append_drop _ qs).symm
  have h1 : (flat qs).filter (btw lo hi) = WW lo hi qs (i + 1) ++ (flat (qs.drop (i + 1))).filter (btw lo hi) := by
    conv => lhs; rw [e, flat_append, List.filter_append]
    rfl
  have e2 : q.2 = q.2.take (k + 1) ++ q.2.drop (k + 1) := (List.take_append_drop _ q.2).symm
  have h2 : WW lo hi qs (i + 1) = VV lo hi qs i q (k + 1) ++ ((q.2.drop (k + 1)).map fun x => (x, q.1)).filter (btw lo hi) := by
    rw [WW_next hq]
    unfold VV
    rw [List.append_assoc]
    congr 1
    conv => lhs; rw [e2, List.map_append, List.filter_append]
  rw [h1, h2, VV_next hx, if_pos hb, List.append_assoc, List.append_assoc, List.getElem?_append_right (Nat.le_refl _), Nat.sub_self]
  rfl
end

end Go.Proofs.Ytpoogkgekeocbaa
