/- Small facts on worlds: what a call may have written; blocks of cells. -/
import Derived.WalkKit
import Derived.WalkSpells
import Derived.WalkLawsBesides
namespace Go.Proofs.Ytpoogkgekeocbaa
open Go.RowKit

/-- From w to w' no block has gone, and of those that lay in w none but those of S has turned. -/
structure Upd (S : List Nat) (w w' : World) : Prop where
  os : w'.os = w.os
  tape : w'.tape = w.tape
  output : w'.output = w.output
  size : w.heap.size ≤ w'.heap.size
  block : ∀ k, k < w.heap.size → k ∉ S → w'.heap[k]? = w.heap[k]?

theorem Upd.refl (S : List Nat) (w : World) : Upd S w w := ⟨rfl, rfl, rfl, Nat.le_refl _, fun _ _ _ => rfl⟩

theorem Upd.trans {S : List Nat} {a b c : World} (h : Upd S a b) (k : Upd S b c) : Upd S a c :=
  ⟨k.os.trans h.os, k.tape.trans h.tape, k.output.trans h.output, Nat.le_trans h.size k.size,
    fun i hi hn => (k.block i (Nat.lt_of_lt_of_le hi h.size) hn).trans (h.block i hi hn)⟩

theorem Upd.mono {S S' : List Nat} {w w' : World} (h : Upd S w w') (hs : ∀ k, k ∈ S → k ∈ S') : Upd S' w w' :=
  ⟨h.os, h.tape, h.output, h.size, fun k hk hn => h.block k hk (fun h' => hn (hs k h'))⟩

/-- Blocks of S that lie beyond w's heap don't count. -/
theorem Upd.shrink {S S' : List Nat} {w w' : World} (h : Upd S w w') (hs : ∀ k, k ∈ S → k < w.heap.size → k ∈ S') : Upd S' w w' :=
  ⟨h.os, h.tape, h.output, h.size, fun k hk hn => h.block k hk (fun h' => hn (hs k h' hk))⟩

theorem Upd.drew {S : List Nat} {a w : World} (h : Upd S a w) : Upd S a w.drew := ⟨h.os, h.tape, h.output, h.size, h.block⟩

theorem Upd.alloc {S : List Nat} {a w : World} (h : Upd S a w) (o : Obj) : Upd S a (w.alloc o) :=
  h.trans ⟨rfl, rfl, rfl, by simp, fun k hk _ => Below.heap_alloc _ _ _ hk⟩

theorem Upd.setCell {S : List Nat} {a w : World} (h : Upd S a w) {p : Addr} (hp : p.block ∈ S) (u : Value) : Upd S a (w.setCell p u) :=
  h.trans ⟨rfl, rfl, rfl, by simp [World.setCell], fun k _ hk => Below.heap_setCell _ _ _ _ (fun e => hk (e ▸ hp))⟩

/-- A store into a block that is new since a. -/
theorem Upd.setCell_new {S : List Nat} {a w : World} (h : Upd S a w) {p : Addr} (hp : a.heap.size ≤ p.block) (u : Value) : Upd S a (w.setCell p u) :=
  ⟨h.os, h.tape, h.output, by simpa [World.setCell] using h.size, fun k hk hn => (Below.heap_setCell _ _ _ _ (by omega)).trans (h.block k hk hn)⟩

theorem Upd.grown {S : List Nat} {a w w' : World} {row : Option Nat} (h : Upd S a w) (hg : w.grownBy w' row) (hr : ∀ k, row = some k → k ∈ S ∨ a.heap.size ≤ k) : Upd S a w' := by
  refine ⟨hg.os.trans h.os, hg.tape.trans h.tape, hg.output.trans h.output, Nat.le_trans h.size hg.size, fun k hk hn => ?_⟩
  refine (hg.block k (Nat.lt_of_lt_of_le hk h.size) (fun e => ?_)).trans (h.block k hk hn)
  rcases hr k e.symm with h1 | h1
  · exact hn h1
  · omega

theorem Upd.cell {S : List Nat} {w w' : World} (h : Upd S w w') {p : Addr} (hp : p.block < w.heap.size) (hn : p.block ∉ S) : w'.cell? p = w.cell? p :=
  World.cell?_of_block (h.block p.block hp hn)

theorem Upd.cell' {S : List Nat} {w w' : World} (h : Upd S w w') {p : Addr} {v : Value} (hc : w.cell? p = some v) (hn : p.block ∉ S) : w'.cell? p = some v :=
  (h.cell (World.block_lt_of_cell? w p hc) hn).trans hc

theorem Upd.frozen {S : List Nat} {w w' : World} (h : Upd S w w') {p : Addr} (hp : p.block < w.heap.size) (hn : p.block ∉ S) : w'.frozen? p = w.frozen? p :=
  World.frozen?_of_block (h.block p.block hp hn)

theorem Upd.below {S : List Nat} {w w' : World} (h : Upd S w w') {B : Nat} (hB : B ≤ w.heap.size) (hS : ∀ k, k ∈ S → B ≤ k) : Below B w w' :=
  ⟨h.os, h.tape, h.output, h.size, fun k hk => h.block k (by omega) (fun e => by have := hS k e; omega)⟩

theorem Upd.of_below {w w' : World} (h : Below w.heap.size w w') (S : List Nat) : Upd S w w' :=
  ⟨h.os, h.tape, h.output, h.size, fun k hk _ => h.block k hk⟩

/-- Block b is a row of cells of element type e, none frozen. -/
def IsRow (w : World) (b : Nat) (e : TypeId) (xs : List Value) : Prop := w.heap[b]? = some (.cells xs.toArray e (0, 0))

theorem IsRow.lt {w : World} {b e xs} (h : IsRow w b e xs) : b < w.heap.size := (Array.getElem?_eq_some_iff.1 h).1

theorem IsRow.cell {w : World} {b e xs} (h : IsRow w b e xs) (o : Nat) : w.cell? ⟨b, o, none⟩ = xs[o]? := by
  have h' : w.heap[b]? = some (.cells xs.toArray e (0, 0)) := h
  simp [World.cell?, h']

theorem IsRow.has {w : World} {b e xs} (h : IsRow w b e xs) {o : Nat} (ho : o < xs.length) : ∃ v, w.cell? ⟨b, o, none⟩ = some v :=
  ⟨xs[o], by rw [h.cell, List.getElem?_eq_getElem ho]⟩

theorem IsRow.free {w : World} {b e xs} (h : IsRow w b e xs) (o : Nat) : w.frozen? ⟨b, o, none⟩ = false := by
  have h' : w.heap[b]? = some (.cells xs.toArray e (0, 0)) := h
  simp [World.frozen?, h']

theorem IsRow.upd {w w' : World} {S b e xs} (h : IsRow w b e xs) (u : Upd S w w') (hn : b ∉ S) : IsRow w' b e xs :=
  (u.block b h.lt hn).trans h

theorem IsRow.setCell_same {w : World} {b e xs} (h : IsRow w b e xs) (o : Nat) (v : Value) : IsRow (w.setCell ⟨b, o, none⟩ v) b e (xs.set o v) := by
  have h' : w.heap[b]? = some (.cells xs.toArray e (0, 0)) := h
  unfold IsRow
  simp [World.setCell, Array.getElem?_modify, h']

theorem IsRow.setCell_other {w : World} {b e xs} (h : IsRow w b e xs) (p : Addr) (hp : p.block ≠ b) (v : Value) : IsRow (w.setCell p v) b e xs :=
  (Below.heap_setCell w p v b (fun e => hp e.symm)).trans h

theorem IsRow.alloc {w : World} {b e xs} (h : IsRow w b e xs) (o : Obj) : IsRow (w.alloc o) b e xs :=
  (Below.heap_alloc w o b h.lt).trans h

theorem IsRow.drew {w : World} {b e xs} (h : IsRow w b e xs) : IsRow w.drew b e xs := h

theorem IsRow.new (w : World) (xs : List Value) (e : TypeId) : IsRow (w.alloc (.cells xs.toArray e (0, 0))) w.heap.size e xs := by
  unfold IsRow World.alloc
  simp

end Go.Proofs.Ytpoogkgekeocbaa
