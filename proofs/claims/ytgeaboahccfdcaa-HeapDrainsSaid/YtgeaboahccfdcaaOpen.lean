/- An argument that is a list of numbers, opened to its cells. -/
import Derived.Test.YtgeaboahccfdcaaH
import Derived.Deep.Slices
import Derived.Test.YtgeaboahccfdcaaClose
namespace Go.Proofs.Ytgeaboahccfdcaa
open Go.ChangeShapes Go.WideShapes Go.ChangeAt Go.RowKit Go.Deep

section
variable {H : Type} {enc : TypeId × Value → H} {P : Program} {w : World}

theorem cell_spot {w : World} {a : Addr} {v : Value} (h : w.cell? a = some v) : a.spot = none ∧ a.block < w.heap.size := by
  refine ⟨?_, World.block_lt_of_cell? w a h⟩
  unfold World.cell? at h
  split at h
  · split at h
    · cases h
    · rename_i hs; simpa using hs
  · cases h

theorem open_view {t e : TypeId} {fuel : Nat} {cs : List Value} {x : DataW H × List MemPlace} (ht : P.underlying t = some (.slice e)) (he : P.underlying e = some (.int .i64)) (hc : P.cellsOf e = 1)
    (h : DataW.trod enc P w 0 (fun _ => true) true fuel t cs = some x) : ∃ p len cap xs, cs = [.slice p len cap] ∧ List.length xs = len ∧ View w p cap xs := by
  rcases open_ints ht he hc h with ⟨hcs, _⟩ | ⟨a, len, cap, zs, hcs, _, hl, hm, hz, _, hcell, _⟩
  · exact ⟨none, 0, 0, [], hcs, rfl, ⟨Nat.le_refl _, Nat.zero_le _, fun _ => rfl, fun i x hx => by simp at hx⟩⟩
  · simp only [if_true] at hz
    refine ⟨some a, len, cap, zs.take len, hcs, by rw [List.length_take]; omega, ⟨by rw [List.length_take]; omega, hm, (fun e => by cases e), fun i x hx => ?_⟩⟩
    have hi : i < zs.length := by
      have := (List.getElem?_eq_some_iff.1 hx).1
      rw [List.length_take] at this
      omega
    have hs0 : a.spot = none := by
      have hz := (cell_spot (hcell 0 (by omega))).1
      simpa [Addr.add] using hz
    obtain ⟨b, off, spot⟩ := a
    simp only at hs0
    subst hs0
    have hb := (cell_spot (hcell i hi)).2
    rw [add_flat] at hb
    refine ⟨b, off, rfl, hb, fun j y hy => ?_⟩
    have hj : j < zs.length := by
      have := (List.getElem?_eq_some_iff.1 hy).1
      rw [List.length_take] at this
      omega
    have := hcell j hj
    rw [add_flat] at this
    rw [this]
    have hjl : j < len := by
      have := (List.getElem?_eq_some_iff.1 hy).1
      rw [List.length_take] at this
      omega
    rw [List.getElem?_take_of_lt hjl] at hy
    simp [List.getD, hy]
end

theorem add_flat2 {a : Addr} (h : a.spot = none) (n : Nat) : a.add n = ⟨a.block, a.off + n, none⟩ := by
  obtain ⟨b, o, s⟩ := a
  simp only at h
  subst h
  unfold Addr.add
  split
  · rename_i h0; subst h0; rfl
  · rfl

section
variable {H : Type} {enc : TypeId × Value → H} {P : Program} {w : World} {base : Nat}

theorem open_pairs {t e ti : TypeId} {f0 f1 : Field} {fuel : Nat} {cs : List Value} {x : DataW H × List MemPlace} (ht : P.underlying t = some (.slice e)) (he : P.underlying e = some (.struct #[f0, f1]))
    (hC : P.cellsOf e = 2) (hi : P.underlying ti = some (.int .i64)) (hCi : P.cellsOf ti = 1) (h0 : f0.type = ti ∧ f0.offset = 0) (h1 : f1.type = ti ∧ f1.offset = 1)
    (h : DataW.trod enc P w 0 (fun _ => true) true fuel t cs = some x) :
    ∃ p len cap ps, cs = [.slice p len cap] ∧ List.length ps = len ∧ len ≤ maxLen ∧ Pairs w p ps := by
  rcases open_slice ht h with ⟨hcs, _⟩ | ⟨a, len, cap, m, n, D, Pl, hcs, _, hl, hm, hmm, _, hx⟩
  · exact ⟨none, 0, 0, [], hcs, rfl, Nat.zero_le _, fun i A C hp => by simp at hp⟩
  · simp only [if_true] at hmm
    have key : ∀ i, i < len → ∃ y : Int × Int, w.cell? (a.add (i * 2)) = some (.int .i64 y.1) ∧ w.cell? (a.add (i * 2 + 1)) = some (.int .i64 y.2) := by
      intro i hi'
      obtain ⟨cs', hc, ht'⟩ := hx i (by omega)
      rw [hC] at hc
      obtain ⟨_, hlen, hat⟩ := World.cells?_some hc
      obtain ⟨y0, y1, n', _, _, g0, g1⟩ := trod_struct2 he ht'
      obtain ⟨h0t, h0o⟩ := h0
      obtain ⟨h1t, h1o⟩ := h1
      rw [h0t, h0o, hCi] at g0
      rw [h1t, h1o, hCi] at g1
      obtain ⟨A, e0, _⟩ := DataW.trod_int hi g0
      obtain ⟨C, e1, _⟩ := DataW.trod_int hi g1
      have a0 := hat 0 (by omega)
      have a1 := hat 1 (by omega)
      rw [add_add] at a0 a1
      match cs', hlen with
      | [c0, c1], _ =>
        simp at e0 e1
        subst e0 e1
        exact ⟨(A, C), by simpa using a0, by simpa using a1⟩
    obtain ⟨f, hf⟩ := choose_lt key
    refine ⟨some a, len, cap, (List.range len).map f, hcs, by simp, by omega, ?_⟩
    intro i A C hp
    have hil : i < len := by
      have := (List.getElem?_eq_some_iff.1 hp).1
      simpa using this
    have hs := (cell_spot (hf i hil).1)
    have hs0 : a.spot = none := by
      have hz := (cell_spot (hf 0 (by omega)).1).1
      simpa [Addr.add] using hz
    have hb : a.block < w.heap.size := by
      have := hs.2
      rw [add_flat2 hs0] at this
      exact this
    refine ⟨a.block, a.off, ?_, hb, ?_⟩
    · obtain ⟨b, o, s⟩ := a
      simp only at hs0
      subst hs0
      rfl
    · intro j A' C' hp'
      have hjl : j < len := by
        have := (List.getElem?_eq_some_iff.1 hp').1
        simpa using this
      have := hf j hjl
      rw [add_flat2 hs0, add_flat2 hs0] at this
      have hfj : f j = (A', C') := by
        rw [List.getElem?_map, List.getElem?_range hjl] at hp'
        simpa using hp'
      rw [hfj, ← Nat.add_assoc] at this
      exact this
end

end Go.Proofs.Ytgeaboahccfdcaa
