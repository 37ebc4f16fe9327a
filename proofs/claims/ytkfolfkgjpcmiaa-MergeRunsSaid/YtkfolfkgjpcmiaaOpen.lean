/- An argument that is a list of numbers, opened to its cells. -/
import Derived.Test.YtkfolfkgjpcmiaaV
import Derived.Test.YtkfolfkgjpcmiaaClose
namespace Go.Proofs.Ytkfolfkgjpcmiaa
open Go.ChangeShapes Go.WideShapes Go.ChangeAt Go.RowKit

section
variable {H : Type} {enc : TypeId × Value → H} {P : Program} {w : World}

theorem cell_spot {w : World} {a : Addr} {v : Value} (h : w.cell? a = some v) : a.spot = none ∧ a.block < w.heap.size := by
  refine ⟨?_, World.block_lt_of_cell? w a h⟩
  unfold World.cell? at h
  split at h
  · split at h
    · cases h
    · rename_i hs; simpa using hs
  · cases h

theorem open_view {t e : TypeId} {fuel : Nat} {cs : List Value} {x : DataW H × List MemPlace} (ht : P.underlying t = some (.slice e)) (he : P.underlying e = some (.int .i64)) (hc : P.cellsOf e = 1)
    (h : DataW.trod enc P w 0 (fun _ => true) true fuel t cs = some x) : ∃ p len cap xs, cs = [.slice p len cap] ∧ List.length xs = len ∧ View w p cap xs := by
  rcases open_ints ht he hc h with ⟨hcs, _⟩ | ⟨a, len, cap, zs, hcs, _, hl, hm, hz, _, hcell, _⟩
  · exact ⟨none, 0, 0, [], hcs, rfl, ⟨Nat.le_refl _, Nat.zero_le _, fun _ => rfl, fun i x hx => by simp at hx⟩⟩
  · simp only [if_true] at hz
    refine ⟨some a, len, cap, zs.take len, hcs, by rw [List.length_take]; omega, ⟨by rw [List.length_take]; omega, hm, (fun e => by cases e), fun i x hx => ?_⟩⟩
    have hi : i < zs.length := by
      have := (List.getElem?_eq_some_iff.1 hx).1
      rw [List.length_take] at this
      omega
    have hs0 : a.spot = none := by
      have hz := (cell_spot (hcell 0 (by omega))).1
      simpa [Addr.add] using hz
    obtain ⟨b, off, spot⟩ := a
    simp only at hs0
    subst hs0
    have hb := (cell_spot (hcell i hi)).2
    rw [add_flat] at hb
    refine ⟨b, off, rfl, hb, fun j y hy => ?_⟩
    have hj : j < zs.length := by
      have := (List.getElem?_eq_some_iff.1 hy).1
      rw [List.length_take] at this
      omega
    have := hcell j hj
    rw [add_flat] at this
    rw [this]
    have hjl : j < len := by
      have := (List.getElem?_eq_some_iff.1 hy).1
      rw [List.length_take] at this
      omega
    rw [List.getElem?_take_of_lt hjl] at hy
    simp [List.getD, hy]
end

end Go.Proofs.Ytkfolfkgjpcmiaa
