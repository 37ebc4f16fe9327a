/- Arguments that are lists of points, points, boxes, opened to their cells. -/
import Derived.Test.YtpoogkgekeocbaaA
import Derived.Deep.Slices
import Derived.Test.YtpoogkgekeocbaaClose
namespace Go.Proofs.Ytpoogkgekeocbaa
open Go.ChangeShapes Go.WideShapes Go.ChangeAt Go.RowKit Go.Deep

section
variable {H : Type} {enc : TypeId × Value → H} {P : Program} {w : World}

theorem cell_spot {w : World} {a : Addr} {v : Value} (h : w.cell? a = some v) : a.spot = none ∧ a.block < w.heap.size := by
  refine ⟨?_, World.block_lt_of_cell? w a h⟩
  unfold World.cell? at h
  split at h
  · split at h
    · cases h
    · rename_i hs; simpa using hs
  · cases h

theorem add_flat2 {a : Addr} (h : a.spot = none) (n : Nat) : a.add n = ⟨a.block, a.off + n, none⟩ := by
  obtain ⟨b, o, s⟩ := a
  simp only at h
  subst h
  unfold Addr.add
  split
  · rename_i h0; subst h0; rfl
  · rfl

/-- two numbers in a row of two cells -/
theorem open_two {e ti : TypeId} {f0 f1 : Field} {fuel : Nat} {cs : List Value} {x : DataW H × List MemPlace} (he : P.underlying e = some (.struct #[f0, f1]))
    (hC : P.cellsOf e = 2) (hi : P.underlying ti = some (.int .i64)) (hCi : P.cellsOf ti = 1) (h0 : f0.type = ti ∧ f0.offset = 0) (h1 : f1.type = ti ∧ f1.offset = 1)
    (h : DataW.trod enc P w 0 (fun _ => true) true fuel e cs = some x) : ∃ a c : Int, cs = [.int .i64 a, .int .i64 c] := by
  obtain ⟨y0, y1, n', _, hl, g0, g1⟩ := trod_struct2 he h
  obtain ⟨h0t, h0o⟩ := h0
  obtain ⟨h1t, h1o⟩ := h1
  rw [h0t, h0o, hCi] at g0
  rw [h1t, h1o, hCi] at g1
  obtain ⟨A, e0, _⟩ := DataW.trod_int hi g0
  obtain ⟨C, e1, _⟩ := DataW.trod_int hi g1
  rw [hC] at hl
  match cs, hl with
  | [c0, c1], _ =>
    simp at e0 e1
    subst e0 e1
    exact ⟨A, C, rfl⟩

theorem open_four {e e2 ti : TypeId} {f0 f1 g0 g1 : Field} {fuel : Nat} {cs : List Value} {x : DataW H × List MemPlace} (he : P.underlying e = some (.struct #[f0, f1])) (he2 : P.underlying e2 = some (.struct #[g0, g1]))
    (hC : P.cellsOf e = 4) (hC2 : P.cellsOf e2 = 2) (hi : P.underlying ti = some (.int .i64)) (hCi : P.cellsOf ti = 1) (h0 : f0.type = e2 ∧ f0.offset = 0) (h1 : f1.type = e2 ∧ f1.offset = 2) (k0 : g0.type = ti ∧ g0.offset = 0) (k1 : g1.type = ti ∧ g1.offset = 1)
    (h : DataW.trod enc P w 0 (fun _ => true) true fuel e cs = some x) : ∃ a b c d : Int, cs = [.int .i64 a, .int .i64 b, .int .i64 c, .int .i64 d] := by
  obtain ⟨y0, y1, n', _, hl, l0, l1⟩ := trod_struct2 he h
  obtain ⟨h0t, h0o⟩ := h0
  obtain ⟨h1t, h1o⟩ := h1
  rw [h0t, h0o, hC2] at l0
  rw [h1t, h1o, hC2] at l1
  obtain ⟨a, b, e0⟩ := open_two he2 hC2 hi hCi k0 k1 l0
  obtain ⟨c, d, e1⟩ := open_two he2 hC2 hi hCi k0 k1 l1
  rw [hC] at hl
  match cs, hl with
  | [c0, c1, c2, c3], _ =>
    simp at e0 e1
    obtain ⟨rfl, rfl⟩ := e0
    obtain ⟨rfl, rfl⟩ := e1
    exact ⟨a, b, c, d, rfl⟩

theorem open_pts {t e ti : TypeId} {f0 f1 : Field} {fuel : Nat} {cs : List Value} {x : DataW H × List MemPlace} (ht : P.underlying t = some (.slice e)) (he : P.underlying e = some (.struct #[f0, f1]))
    (hC : P.cellsOf e = 2) (hi : P.underlying ti = some (.int .i64)) (hCi : P.cellsOf ti = 1) (h0 : f0.type = ti ∧ f0.offset = 0) (h1 : f1.type = ti ∧ f1.offset = 1)
    (h : DataW.trod enc P w 0 (fun _ => true) true fuel t cs = some x) :
    ∃ p len cap xs, cs = [.slice p len cap] ∧ List.length xs = len ∧ View (α := Pt) w p cap xs := by
  rcases open_slice ht h with ⟨hcs, _⟩ | ⟨a, len, cap, m, n, D, Pl, hcs, _, hl, hm, hmm, _, hx⟩
  · exact ⟨none, 0, 0, [], hcs, rfl, ⟨Nat.le_refl _, Nat.zero_le _, fun _ => rfl, fun i x hx => by simp at hx⟩⟩
  · simp only [if_true] at hmm
    have key : ∀ i, i < len → ∃ y : Int × Int, w.cell? (a.add (i * 2)) = some (.int .i64 y.1) ∧ w.cell? (a.add (i * 2 + 1)) = some (.int .i64 y.2) := by
      intro i hi'
      obtain ⟨cs', hc, ht'⟩ := hx i (by omega)
      rw [hC] at hc
      obtain ⟨_, hlen, hat⟩ := World.cells?_some hc
      obtain ⟨A, C, rfl⟩ := open_two he hC hi hCi h0 h1 ht'
      have a0 := hat 0 (by omega)
      have a1 := hat 1 (by omega)
      rw [add_add] at a0 a1
      exact ⟨(A, C), by simpa using a0, by simpa using a1⟩
    obtain ⟨f, hf⟩ := choose_lt key
    refine ⟨some a, len, cap, (List.range len).map f, hcs, by simp, ⟨by simp; omega, hm, (fun e => by cases e), ?_⟩⟩
    intro i y hp
    have hil : i < len := by
      have := (List.getElem?_eq_some_iff.1 hp).1
      simpa using this
    have hs := (cell_spot (hf i hil).1)
    have hs0 : a.spot = none := by
      have hz := (cell_spot (hf 0 (by omega)).1).1
      simpa [Addr.add] using hz
    have hb : a.block < w.heap.size := by
      have := hs.2
      rw [add_flat2 hs0] at this
      exact this
    refine ⟨a.block, a.off, ?_, hb, ?_⟩
    · obtain ⟨b, o, s⟩ := a
      simp only at hs0
      subst hs0
      rfl
    · intro j z hp'
      have hjl : j < len := by
        have := (List.getElem?_eq_some_iff.1 hp').1
        simpa using this
      have := hf j hjl
      rw [add_flat2 hs0, add_flat2 hs0] at this
      have hfj : f j = z := by
        rw [List.getElem?_map, List.getElem?_range hjl] at hp'
        simpa using hp'
      rw [hfj, ← Nat.add_assoc] at this
      exact this
end

section
variable {H : Type} {enc : TypeId × Value → H} {w : World} {base : Nat}
theorem Try.open_pts {p' : Option Addr} {l' c' fuel : Nat} {x : DataW H × List MemPlace} (h : DataW.trod enc Try.prog w 0 (fun _ => true) true fuel 22 (Value.slice p' l' c').cells.toList = some x) :
    ∃ xs : List Pt, Lst w (.slice p' l' c') xs := by
  obtain ⟨p, len, cap, xs, hcs, rfl, hv⟩ := Go.Proofs.Ytpoogkgekeocbaa.open_pts (P := Try.prog) Try.underlying22 Try.underlying24 (by kernel_rfl) Try.underlying3 (by kernel_rfl) ⟨rfl, rfl⟩ ⟨rfl, rfl⟩ h
  simp only [Value.cells, List.cons.injEq, Value.slice.injEq, and_true] at hcs
  obtain ⟨rfl, rfl, rfl⟩ := hcs
  exact ⟨xs, hv.lst⟩
theorem Try.open_pt {v : Value} {fuel : Nat} {x : DataW H × List MemPlace} (hv : Value.okWide Try.prog w .any base 24 v) (h : DataW.trod enc Try.prog w 0 (fun _ => true) true fuel 24 v.cells.toList = some x) :
    ∃ c : Pt, v = pv c := by
  obtain ⟨cs, rfl, _⟩ := okWide_struct Try.underlying24 hv
  obtain ⟨a, c, e⟩ := open_two (P := Try.prog) Try.underlying24 (by kernel_rfl) Try.underlying3 (by kernel_rfl) ⟨rfl, rfl⟩ ⟨rfl, rfl⟩ h
  refine ⟨(a, c), ?_⟩
  show _ = Value.agg #[.int .i64 a, .int .i64 c]
  rw [Value.agg.injEq]
  exact Array.ext' e
theorem Try.open_box {v : Value} {fuel : Nat} {x : DataW H × List MemPlace} (hv : Value.okWide Try.prog w .any base 48 v) (h : DataW.trod enc Try.prog w 0 (fun _ => true) true fuel 48 v.cells.toList = some x) :
    ∃ a b c d : Int, v = .agg #[.int .i64 a, .int .i64 b, .int .i64 c, .int .i64 d] := by
  obtain ⟨cs, rfl, _⟩ := okWide_struct Try.underlying48 hv
  obtain ⟨a, b, c, d, e⟩ := open_four (P := Try.prog) Try.underlying48 Try.underlying24 (by kernel_rfl) (by kernel_rfl) Try.underlying3 (by kernel_rfl) ⟨rfl, rfl⟩ ⟨rfl, rfl⟩ ⟨rfl, rfl⟩ ⟨rfl, rfl⟩ h
  refine ⟨a, b, c, d, ?_⟩
  rw [Value.agg.injEq]
  exact Array.ext' e
end

end Go.Proofs.Ytpoogkgekeocbaa
