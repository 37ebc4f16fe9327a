/- Lists of things of two cells in memory: read, and owned. -/
import Derived.Test.YtpoogkgekeocbaaRows
import Derived.Test.YtpoogkgekeocbaaLib
import Derived.Test.YtpoogkgekeocbaaRange
import Derived.Test.YtpoogkgekeocbaaRound
import Derived.Deep.AppendLies
import Derived.Lib.Hide
import Derived.BigQuiet
import Derived.Deep.QuietTactic
import Derived.Deep.RegionHeld3
import Derived.Shelf.Abstract
namespace Go.Proofs.Ytpoogkgekeocbaa
open Go.RowKit

theorem ret_bool {a b : Bool} (h : a = b) : Ending.returned (.bool a) = .returned (.bool b) := by rw [h]
theorem ret_int {k : IntKind} {a b : Int} (h : a = b) : Ending.returned (.int k a) = .returned (.int k b) := by rw [h]
def lenV : Value → Nat | .slice _ n _ => n | _ => 0

theorem add_flat {b off : Nat} (n : Nat) : (⟨b, off, none⟩ : Addr).add n = ⟨b, off + n, none⟩ := by
  unfold Addr.add
  split
  · rename_i h0; subst h0; rfl
  · rfl

theorem Upd.drewN {S : List Nat} {a w : World} (h : Upd S a w) (n : Nat) : Upd S a (w.drewN n) := ⟨h.os, h.tape, h.output, h.size, h.block⟩

/-- Two cells each. -/
class Enc (α : Type) where
  c0 : α → Value
  c1 : α → Value
  one0 : ∀ x, (c0 x).oneCell' = true
  one1 : ∀ x, (c1 x).oneCell' = true

instance : Enc (Int × Int) := ⟨fun p => .int .i64 p.1, fun p => .int .i64 p.2, fun _ => rfl, fun _ => rfl⟩

section
variable {α : Type} [Enc α]

def cells2 : List α → List Value
  | [] => []
  | x :: r => Enc.c0 x :: Enc.c1 x :: cells2 r

theorem cells2_len (xs : List α) : (cells2 xs).length = xs.length * 2 := by
  induction xs with
  | nil => rfl
  | cons x r ih => simp only [cells2, List.length_cons, ih]; omega
theorem cells2_append (a b : List α) : cells2 (a ++ b) = cells2 a ++ cells2 b := by
  induction a with
  | nil => rfl
  | cons x r ih => simp only [List.cons_append, cells2, ih]
theorem cells2_at {xs : List α} {i : Nat} {x : α} (h : xs[i]? = some x) : (cells2 xs)[i * 2]? = some (Enc.c0 x) ∧ (cells2 xs)[i * 2 + 1]? = some (Enc.c1 x) := by
  induction xs generalizing i with
  | nil => simp at h
  | cons a r ih =>
    cases i with
    | zero => simp at h; subst h; exact ⟨rfl, rfl⟩
    | succ i =>
      rw [List.getElem?_cons_succ] at h
      have := ih h
      rw [show (i + 1) * 2 = i * 2 + 1 + 1 from by omega]
      exact this
theorem cells2_one (xs : List α) : ∀ u ∈ cells2 xs, u.oneCell' = true := by
  induction xs with
  | nil => intro u hu; simp [cells2] at hu
  | cons a r ih =>
    intro u hu
    simp only [cells2, List.mem_cons] at hu
    rcases hu with rfl | rfl | hu
    · exact Enc.one0 a
    · exact Enc.one1 a
    · exact ih u hu
theorem cells2_get {xs : List α} {j : Nat} {u : Value} (h : (cells2 xs)[j]? = some u) : ∃ i x, xs[i]? = some x ∧ ((j = i * 2 ∧ u = Enc.c0 x) ∨ (j = i * 2 + 1 ∧ u = Enc.c1 x)) := by
  have hj : j < xs.length * 2 := by
    have := (List.getElem?_eq_some_iff.1 h).1
    rwa [cells2_len] at this
  obtain ⟨x, hx⟩ : ∃ x, xs[j / 2]? = some x := ⟨xs[j / 2]'(by omega), List.getElem?_eq_getElem _⟩
  have hc := cells2_at hx
  refine ⟨j / 2, x, hx, ?_⟩
  by_cases e : j % 2 = 0
  · have ej : j = j / 2 * 2 := by omega
    rw [← ej, h] at hc
    exact .inl ⟨ej, Option.some.inj hc.1⟩
  · have ej : j = j / 2 * 2 + 1 := by omega
    rw [← ej, h] at hc
    exact .inr ⟨ej, Option.some.inj hc.2⟩
theorem cells2_take (xs : List α) (m : Nat) : (cells2 xs).take (m * 2) = cells2 (xs.take m) := by
  induction xs generalizing m with
  | nil => simp [cells2]
  | cons a r ih =>
    cases m with
    | zero => simp [cells2]
    | succ m =>
      rw [show (m + 1) * 2 = m * 2 + 1 + 1 from by omega, List.take_succ_cons]
      simp only [cells2, List.take_succ_cons, ih]

/-- Such a list is read at that place. -/
structure View (w : World) (p : Option Addr) (cap : Nat) (xs : List α) : Prop where
  le : xs.length ≤ cap
  max : cap ≤ maxLen
  nil : p = none → cap = 0
  cells : ∀ (i : Nat) (x : α), xs[i]? = some x → ∃ b off, p = some ⟨b, off, none⟩ ∧ b < w.heap.size ∧ ∀ (j : Nat) (y : α), xs[j]? = some y →
    w.cell? ⟨b, off + j * 2, none⟩ = some (Enc.c0 y) ∧ w.cell? ⟨b, off + j * 2 + 1, none⟩ = some (Enc.c1 y)

theorem View.updS {w w' : World} {p : Option Addr} {c : Nat} {xs : List α} {S : List Nat} (h : View w p c xs) (u : Upd S w w') (hn : ∀ b off, p = some ⟨b, off, none⟩ → 0 < xs.length → b ∉ S) : View w' p c xs := by
  refine ⟨h.le, h.max, h.nil, fun i x hx => ?_⟩
  obtain ⟨b, off, h1, h2, h3⟩ := h.cells i x hx
  have hpos : 0 < xs.length := by have := (List.getElem?_eq_some_iff.1 hx).1; omega
  exact ⟨b, off, h1, Nat.lt_of_lt_of_le h2 u.size, fun j y hj => ⟨(u.cell (p := ⟨b, off + j * 2, none⟩) h2 (hn b off h1 hpos)).trans (h3 j y hj).1, (u.cell (p := ⟨b, off + j * 2 + 1, none⟩) h2 (hn b off h1 hpos)).trans (h3 j y hj).2⟩⟩
theorem View.upd {w w' : World} {p cap} {xs : List α} (h : View w p cap xs) (u : Upd [] w w') : View w' p cap xs := h.updS u (by simp)
theorem View.low {w w' : World} {p cap} {xs : List α} {X : List Nat} {B : Nat} (h : View w p cap xs) (l : Low X B w w') (hb : 0 < xs.length → ∀ b off, p = some ⟨b, off, none⟩ → b < B ∧ b ∉ X) : View w' p cap xs := by
  refine ⟨h.le, h.max, h.nil, fun i x hx => ?_⟩
  obtain ⟨b, off, h1, h2, h3⟩ := h.cells i x hx
  have hpos : 0 < xs.length := by have := (List.getElem?_eq_some_iff.1 hx).1; omega
  obtain ⟨hb1, hb2⟩ := hb hpos b off h1
  have e := l.low b h2 hb1 hb2
  exact ⟨b, off, h1, Nat.lt_of_lt_of_le h2 l.size, fun j y hj => ⟨(World.cell?_of_block (a := ⟨b, off + j * 2, none⟩) e).trans (h3 j y hj).1, (World.cell?_of_block (a := ⟨b, off + j * 2 + 1, none⟩) e).trans (h3 j y hj).2⟩⟩
theorem View.block {w : World} {p : Option Addr} {c : Nat} {xs : List α} (h : View w p c xs) (hx : 0 < xs.length) : ∃ b off, p = some ⟨b, off, none⟩ ∧ b < w.heap.size := by
  obtain ⟨b, off, h1, h2, _⟩ := h.cells 0 _ (List.getElem?_eq_getElem hx)
  exact ⟨b, off, h1, h2⟩

theorem View.news {w : World} {p : Option Addr} {cap : Nat} {xs : List α} (h : View w p cap xs) {ad : Addr} (hp : p = some ad) : ∀ (j : Nat) (u : Value), (cells2 xs)[j]? = some u → w.cell? (ad.add j) = some u := by
  intro j u hu
  obtain ⟨i, x, hx, hc⟩ := cells2_get hu
  obtain ⟨b, off, h1, _, h3⟩ := h.cells i x hx
  rw [hp] at h1
  cases h1
  rw [add_flat]
  rcases hc with ⟨rfl, rfl⟩ | ⟨rfl, rfl⟩
  · exact (h3 i x hx).1
  · rw [← Nat.add_assoc]; exact (h3 i x hx).2

/-- A list of the call's own. -/
def Own (et : TypeId) (w : World) (B : Nat) (v : Value) (x : List α) : Prop := w.ownsRow B et 2 v x.length (cells2 x)

variable {et : TypeId}
theorem Own.nil (w : World) (B : Nat) : Own et w B (.slice none 0 0) ([] : List α) := World.ownsRow_nil _ _ _ _
theorem own_at {w : World} {B : Nat} {v : Value} {x : List α} {k : Nat} (h : Own et w B v x) (hl : x.length = k) : w.ownsRow B et 2 v k (cells2 x) := by subst hl; exact h
theorem Own.cell {w : World} {B g n cap : Nat} {x : List α} (h : Own et w B (.slice (some ⟨g, 0, none⟩) n cap) x) (hn : n = x.length) {i : Nat} {a : α} (hi : x[i]? = some a) :
    w.cell? ⟨g, i * 2, none⟩ = some (Enc.c0 a) ∧ w.cell? ⟨g, i * 2 + 1, none⟩ = some (Enc.c1 a) := by
  subst hn
  have hil := (List.getElem?_eq_some_iff.1 hi).1
  have h0 := World.ownsRow.cellAt h (i * 2) (by omega)
  have h1 := World.ownsRow.cellAt h (i * 2 + 1) (by omega)
  rw [(cells2_at hi).1] at h0
  rw [(cells2_at hi).2] at h1
  exact ⟨h0, h1⟩
theorem Own.view {w : World} {B : Nat} {v : Value} {x : List α} (h : Own et w B v x) : ∃ p cap, v = .slice p x.length cap ∧ View w p cap x := by
  have h0 := h
  rcases h.2 with ⟨rfl, hn⟩ | ⟨g, cap, cur, rfl, hb, hg, hc, hm, _⟩
  · refine ⟨none, 0, by rw [hn], ⟨by omega, Nat.zero_le _, fun _ => rfl, fun i k hk => ?_⟩⟩
    have : i < x.length := (List.getElem?_eq_some_iff.1 hk).1
    omega
  · refine ⟨some ⟨g, 0, none⟩, cap, rfl, ⟨hc, hm, (fun e => by cases e), fun i k hk => ⟨g, 0, rfl, (Array.getElem?_eq_some_iff.1 hg).1, fun j u hu => ?_⟩⟩⟩
    have := h0.cell rfl hu
    simpa using this
theorem Own.keptNB {w w' : World} {B : Nat} {v : Value} {x : List α} (h : Own et w B v x) {S : List Nat} (u : Upd S w w') (hn : ∀ z, v.ownBlock = some z → z ∉ S) : Own et w' B v x := by
  refine ⟨h.1, ?_⟩
  rcases h.2 with h2 | ⟨g, cap, cur, rfl, hb, hg, r⟩
  · exact .inl h2
  · refine .inr ⟨g, cap, cur, rfl, hb, ?_, r⟩
    rw [u.block g (Array.getElem?_eq_some_iff.1 hg).1 (hn g rfl)]
    exact hg
theorem Own.ge {w : World} {B : Nat} {p : Option Addr} {n c : Nat} {x : List α} (h : Own et w B (.slice p n c) x) : ∀ b off k, p = some ⟨b, off, k⟩ → B ≤ b := by
  intro b off k hp
  rcases h.2 with ⟨h2, _⟩ | ⟨g, cap, cur, h2, hb, _⟩
  · simp only [Value.slice.injEq] at h2
    rw [hp] at h2; cases h2.1
  · simp only [Value.slice.injEq] at h2
    rw [hp] at h2
    cases h2.1
    exact hb
theorem Own.row {w : World} {B : Nat} {v : Value} {x : List α} (h : Own et w B v x) : ∀ k, v.ownBlock = some k → B ≤ k ∧ ∃ c e f, w.heap[k]? = some (.cells c e f) := by
  intro k hk
  rcases h.2 with ⟨rfl, _⟩ | ⟨g, cap, cur, rfl, hb, hg, _⟩
  · cases hk
  · cases hk
    exact ⟨hb, _, _, _, hg⟩
theorem Own.kept {w w' : World} {B : Nat} {v : Value} {x : List α} (h : Own et w B v x) {S : List Nat} (u : Upd S w w') (hS : ∀ k, k ∈ S → k < B) : Own et w' B v x :=
  h.keptNB u (fun z hz e => by have := (h.row z hz).1; have := hS z e; omega)
theorem Own.mono {w : World} {B B' : Nat} {v : Value} {x : List α} (h : Own et w B v x) (hB : B' ≤ B) : Own et w B' v x := by
  refine ⟨h.1, ?_⟩
  rcases h.2 with h2 | ⟨g, cap, cur, rfl, hb, hg, r⟩
  · exact .inl h2
  · exact .inr ⟨g, cap, cur, rfl, Nat.le_trans hB hb, hg, r⟩
theorem Own.view' {w : World} {B : Nat} {p : Option Addr} {n cap : Nat} {x : List α} (h : Own et w B (.slice p n cap) x) : n = x.length ∧ View w p cap x := by
  obtain ⟨p', cap', he, hv⟩ := h.view
  simp only [Value.slice.injEq] at he
  obtain ⟨rfl, rfl, rfl⟩ := he
  exact ⟨rfl, hv⟩
theorem Own.keptF {w w' : World} {B : Nat} {v : Value} {x : List α} {T : List Nat} {B0 : Nat} (h : Own et w B v x) (u : UpdF T B0 w w') (hT : ∀ k, k ∈ T → k < B) : Own et w' B v x := by
  refine ⟨h.1, ?_⟩
  rcases h.2 with h2 | ⟨g, cap, cur, rfl, hb, hg, r⟩
  · exact .inl h2
  · refine .inr ⟨g, cap, cur, rfl, hb, ?_, r⟩
    rw [u.block g (Array.getElem?_eq_some_iff.1 hg).1 (fun e => by have := hT g e; omega) (.inr ⟨_, _, _, hg⟩)]
    exact hg
theorem Own.first {w : World} {B : Nat} {v : Value} {x : List α} (h : Own et w B v x) (hx : 0 < x.length) : ∃ g cap, v = .slice (some ⟨g, 0, none⟩) x.length cap ∧ B ≤ g := by
  rcases h.2 with ⟨_, hn⟩ | ⟨g, cap, cur, rfl, hb, _⟩
  · omega
  · exact ⟨g, cap, rfl, hb⟩
theorem own_grown {w wr w1 : World} {B : Nat} {v : Value} {x : List α} (hown : Own et wr B v x) (hg : wr.grownBy w1 v.ownBlock) (hu : Upd [] w wr) (hB : w.heap.size ≤ B) : Upd [] w w1 :=
  hu.grown hg fun k hk => .inr (by have := World.ownsRow.lt hown k hk; omega)
theorem own_new (w : World) (xs : List α) (n : Nat) (hn : xs.length = n) (hm : n ≤ 1048576) : Own et (w.alloc (.cells (cells2 xs).toArray et)) w.heap.size (.slice (some ⟨w.heap.size, 0, none⟩) n n) xs := by
  subst hn
  refine ⟨by rw [cells2_len], .inr ⟨w.heap.size, xs.length, (cells2 xs).toArray, rfl, Nat.le_refl _, IsRow.new w (cells2 xs) et, Nat.le_refl _, by unfold maxLen; omega, by simp [cells2_len], ?_⟩⟩
  rw [List.take_of_length_le (by simp [cells2_len])]

/-- 'l[lo:hi]' -/
theorem View.slice2 {w : World} {b off cap : Nat} {xs : List α} (h : View w (some ⟨b, off, none⟩) cap xs) {lo hi k : Nat} {p : Option Addr} (h1 : lo ≤ hi) (h2 : hi ≤ xs.length)
    (hp : (¬ cap = lo ∧ p = some ⟨b, off + lo * 2, none⟩) ∨ (cap = lo ∧ p = some ⟨b, off, none⟩)) (hk : k = cap - lo) : View w p k ((xs.drop lo).take (hi - lo)) := by
  subst hk
  have hle := h.le
  have hl : ((xs.drop lo).take (hi - lo)).length = hi - lo := by rw [List.length_take, List.length_drop]; omega
  refine ⟨by omega, by have := h.max; omega, fun e => ?_, fun i y hi' => ?_⟩
  · rcases hp with ⟨_, rfl⟩ | ⟨_, rfl⟩ <;> cases e
  · have hil : i < hi - lo := by rw [← hl]; exact (List.getElem?_eq_some_iff.1 hi').1
    have get : ∀ j z, ((xs.drop lo).take (hi - lo))[j]? = some z → xs[lo + j]? = some z := by
      intro j z hz
      have hjl : j < hi - lo := by rw [← hl]; exact (List.getElem?_eq_some_iff.1 hz).1
      rwa [List.getElem?_take_of_lt hjl, List.getElem?_drop] at hz
    obtain ⟨b', off', hb, hlt, hc⟩ := h.cells (lo + i) y (get i y hi')
    cases hb
    rcases hp with ⟨_, rfl⟩ | ⟨he, _⟩
    · refine ⟨b, off + lo * 2, rfl, hlt, fun j z hz => ?_⟩
      have := hc (lo + j) z (get j z hz)
      rw [show off + lo * 2 + j * 2 = off + (lo + j) * 2 from by omega]
      exact this
    · omega

theorem View.tail {w : World} {b off cap : Nat} {x : α} {xs : List α} (h : View w (some ⟨b, off, none⟩) cap (x :: xs)) (p : Option Addr) (hp : p = some ⟨b, off + 2, none⟩ ∨ (cap = 1 ∧ p ≠ none)) : View w p (cap - 1) xs := by
  have hle := h.le
  simp only [List.length_cons] at hle
  refine ⟨by omega, by have := h.max; omega, fun e => ?_, fun i y hi => ?_⟩
  · rcases hp with hp | hp
    · rw [hp] at e; cases e
    · exact absurd e hp.2
  · rcases hp with hp | hp
    · obtain ⟨b', o', h1, h2, h3⟩ := h.cells (i + 1) y (by simpa using hi)
      cases h1
      refine ⟨b, off + 2, hp, h2, fun j z hz => ?_⟩
      have := h3 (j + 1) z (by simpa using hz)
      rw [show off + 2 + j * 2 = off + (j + 1) * 2 from by omega]
      exact this
    · have : i < xs.length := (List.getElem?_eq_some_iff.1 hi).1
      omega

/-- What is known of a type of two cells, and of the slices of it. -/
structure Ty2 (st et : TypeId) : Prop where
  un : Try.prog.underlying st = some (.slice et)
  info : ∃ z, (Try.prog.info? et).map (fun i => (i.zero, i.size, i.bytes)) = some (some z, 2, 16) ∧ z.cells.size = 2

variable {st : TypeId}
theorem Ty2.parts (T : Ty2 st et) : ∃ i z, Try.prog.info? et = some i ∧ i.zero = some z ∧ i.size = 2 ∧ i.bytes = 16 ∧ z.cells.size = 2 := by
  obtain ⟨z, h, hz⟩ := T.info
  cases hi : Try.prog.info? et with
  | none => rw [hi] at h; cases h
  | some i =>
    rw [hi] at h
    simp only [Option.map_some, Option.some.injEq, Prod.mk.injEq] at h
    exact ⟨i, z, rfl, h.1, h.2.1, h.2.2, hz⟩

theorem run_append_view (T : Ty2 st et) {w : World} {B : Nat} {v : Value} {xs ys : List α} {p : Option Addr} {cap : Nat} (hown : Own et w B v xs) (hv : View w p cap ys) (hB : B ≤ w.heap.size) (hn : xs.length + ys.length ≤ 1048576) (ty : TypeId) :
    ∃ v' w', (Builtin.append_ #[st, st] ty #[v, .slice p ys.length cap]).run Try.prog w = .ok v' w' ∧ Own et w' B v' (xs ++ ys) ∧ w.grownBy w' v.ownBlock := by
  obtain ⟨i0, z, hi, hz0, hz1, hz2, hz3⟩ := T.parts
  cases p with
  | none =>
    have hc := hv.nil rfl
    have hl : ys.length = 0 := by have := hv.le; omega
    have hy : ys = [] := List.eq_nil_of_length_eq_zero hl
    subst hy
    subst hc
    refine ⟨v, w, ?_, by rw [List.append_nil]; exact hown, ⟨rfl, rfl, rfl, Nat.le_refl _, fun _ _ _ => rfl⟩⟩
    exact run_append_owned_none (P := Try.prog) w B st ty et i0 2 T.un hi v xs.length (cells2 xs) hown
  | some ad =>
    obtain ⟨v', w', h1, h2, h3, _⟩ := run_append_own (P := Try.prog) w B st ty et i0 z 2 16 T.un hi hz0 hz1 hz2 hz3 (by decide) v xs.length (cells2 xs) hown ad ys.length cap (cells2 ys) (by rw [cells2_len])
      (hv.news rfl) (cells2_one ys) (by unfold maxLen; omega) (by omega) hB
    refine ⟨v', w', h1, ?_, h3⟩
    unfold Own
    rw [cells2_append, List.length_append]
    exact h2

theorem wpList_append_view (T : Ty2 st et) {ops : Array Oper} {rest : List Oper} {o : Oper} {a : Act} {Q : Exit → Act → World → Prop} {w : World} (hgd : o.guard = none) (s x : Operand)
    (ho : o.op = .call { callee := .builtin .append, args := #[s, x], argTypes := #[st, st] })
    (B : Nat) (v : Value) (xs ys : List α) (p : Option Addr) (cap : Nat) (hs : a.eval s = v) (hx : a.eval x = .slice p ys.length cap) (hown : Own et w B v xs) (hv : View w p cap ys) (hB : B ≤ w.heap.size) (hn : xs.length + ys.length ≤ 1048576)
    (h : ∀ v' w', Own et w' B v' (xs ++ ys) → w.grownBy w' v.ownBlock → wpList Try.prog ops Q rest (a.put o.dst v') w') : wpList Try.prog ops Q (o :: rest) a w := by
  refine wpList_plain hgd fun _ hK => ?_
  obtain ⟨v', w', hr, h2, h3⟩ := run_append_view T hown hv hB hn o.type
  unfold Oper.wp execOp
  simp only [ho, resolve, invoke, builtin, Sem.run_bind, Sem.run_pure, Result.andThen_ok, List.map_toArray, List.map_cons, List.map_nil, hs, hx, hr]
  exact hK _ _ (h v' w' h2 h3)

/-- the one thing that a 'buildSlice' has laid -/
def OneAt (w : World) (b : Nat) (u : α) : Prop := w.cell? ⟨b, 0, none⟩ = some (Enc.c0 u) ∧ w.cell? ⟨b, 1, none⟩ = some (Enc.c1 u)
theorem oneAt_new (w : World) (u : α) (t : TypeId) : OneAt (w.alloc (.cells #[Enc.c0 u, Enc.c1 u] t)) w.heap.size u := by
  have r := IsRow.new w [Enc.c0 u, Enc.c1 u] t
  exact ⟨r.cell 0, r.cell 1⟩

theorem run_append_one (T : Ty2 st et) {w : World} {B : Nat} {v : Value} {xs : List α} {u : α} {b c : Nat} (hown : Own et w B v xs) (hc : OneAt w b u) (hB : B ≤ w.heap.size) (hn : xs.length + 1 ≤ 1048576) (ty : TypeId) :
    ∃ g cap w', (Builtin.append_ #[st, st] ty #[v, .slice (some ⟨b, 0, none⟩) 1 c]).run Try.prog w = .ok (.slice (some ⟨g, 0, none⟩) (xs.length + 1) cap) w' ∧ Own et w' B (.slice (some ⟨g, 0, none⟩) (xs.length + 1) cap) (xs ++ [u]) ∧ w.grownBy w' v.ownBlock ∧ (v.ownBlock = some g ∨ g = w.heap.size) := by
  obtain ⟨i0, z, hi, hz0, hz1, hz2, hz3⟩ := T.parts
  obtain ⟨g, cap, w', hr, h2, h3, h4, _⟩ := run_append_lies (P := Try.prog) w st ty B et i0 z 2 16 T.un hi hz0 hz1 hz2 hz3 (by decide) v xs.length (cells2 xs) hown
    ⟨b, 0, none⟩ 1 c [Enc.c0 u, Enc.c1 u] rfl (fun j v hj => by
      match j, hj with
      | 0, hj => simp at hj; subst hj; rw [add_flat]; exact hc.1
      | 1, hj => simp at hj; subst hj; rw [add_flat]; exact hc.2
      | j + 2, hj => simp at hj) (by
      intro v hv
      simp only [List.mem_cons, List.mem_nil_iff, or_false] at hv
      rcases hv with rfl | rfl
      · exact Enc.one0 u
      · exact Enc.one1 u) (by omega) (by unfold maxLen; omega) (by omega) hB _ rfl
  refine ⟨g, cap, w', hr, ?_, h3, h4⟩
  unfold Own
  rw [cells2_append, List.length_append]
  exact h2

theorem wpList_append_one (T : Ty2 st et) {ops : Array Oper} {rest : List Oper} {o : Oper} {a : Act} {Q : Exit → Act → World → Prop} {w : World} {u : α} (hgd : o.guard = none) (s x : Operand)
    (ho : o.op = .call { callee := .builtin .append, args := #[s, x], argTypes := #[st, st] })
    (w0 : World) (v : Value) (xs : List α) (b c : Nat) (hs : a.eval s = v) (hx : a.eval x = .slice (some ⟨b, 0, none⟩) 1 c) (hc : OneAt w b u)
    (hown : Own et w w0.heap.size v xs) (hu : Upd [] w0 w) (hn : xs.length + 1 ≤ 1048576)
    (h : ∀ v' w', Own et w' w0.heap.size v' (xs ++ [u]) → Upd [] w0 w' → wpList Try.prog ops Q rest (a.put o.dst v') w') : wpList Try.prog ops Q (o :: rest) a w := by
  refine wpList_plain hgd fun _ hK => ?_
  obtain ⟨g, cap, w', hr, h2, h3, _⟩ := run_append_one (c := c) T hown hc hu.size hn o.type
  have h5 := own_grown hown h3 hu (Nat.le_refl _)
  unfold Oper.wp execOp
  simp only [ho, resolve, invoke, builtin, Sem.run_bind, Sem.run_pure, Result.andThen_ok, List.map_toArray, List.map_cons, List.map_nil, hs, hx, hr]
  exact hK _ _ (h _ w' h2 h5)

theorem step_append_one (T : Ty2 st et) {ops : Array Oper} {o : Oper} {a : Act} {K : Act → World → Prop} {Q : Exit → Act → World → Prop} {E : Prop} {w : World} {u : α} (hgd : o.guard = none) (s x : Operand)
    (ho : o.op = .call { callee := .builtin .append, args := #[s, x], argTypes := #[st, st] })
    (B : Nat) (v : Value) (xs : List α) (b c : Nat) (hs : a.eval s = v) (hx : a.eval x = .slice (some ⟨b, 0, none⟩) 1 c) (hc : OneAt w b u)
    (hown : Own et w B v xs) (hB : B ≤ w.heap.size) (hn : xs.length + 1 ≤ 1048576)
    (h : ∀ g cap w', Own et w' B (.slice (some ⟨g, 0, none⟩) (xs.length + 1) cap) (xs ++ [u]) → w.grownBy w' v.ownBlock → (v.ownBlock = some g ∨ g = w.heap.size) → K (a.put o.dst (.slice (some ⟨g, 0, none⟩) (xs.length + 1) cap)) w') :
    if Region.wanted o (yielded ops a.tmps) = true then Oper.wp Try.prog o a w K Q else E := by
  have hw : Region.wanted o (yielded ops a.tmps) = true := by simp [Region.wanted, hgd]
  rw [if_pos hw]
  obtain ⟨g, cap, w', hr, h2, h3, h4⟩ := run_append_one (c := c) T hown hc hB hn o.type
  unfold Oper.wp execOp
  simp only [ho, resolve, invoke, builtin, Sem.run_bind, Sem.run_pure, Result.andThen_ok, List.map_toArray, List.map_cons, List.map_nil, hs, hx, hr]
  exact h g cap w' h2 h3 h4

theorem step_append_view (T : Ty2 st et) {ops : Array Oper} {o : Oper} {a : Act} {K : Act → World → Prop} {Q : Exit → Act → World → Prop} {E : Prop} {w : World} (hgd : o.guard = none) (s x : Operand)
    (ho : o.op = .call { callee := .builtin .append, args := #[s, x], argTypes := #[st, st] })
    (w0 : World) (v : Value) (xs ys : List α) (vx : Value) (hs : a.eval s = v) (hx : a.eval x = vx) (hown : Own et w w0.heap.size v xs) (B : Nat) (hv : Own et w B vx ys) (hu : Upd [] w0 w) (hn : xs.length + ys.length ≤ 1048576)
    (h : ∀ v' w', Own et w' w0.heap.size v' (xs ++ ys) → Upd [] w0 w' → K (a.put o.dst v') w') :
    if Region.wanted o (yielded ops a.tmps) = true then Oper.wp Try.prog o a w K Q else E := by
  have hw : Region.wanted o (yielded ops a.tmps) = true := by simp [Region.wanted, hgd]
  rw [if_pos hw]
  obtain ⟨p, cap, hvx, hvv⟩ := hv.view
  obtain ⟨v', w', hr, h2, h3⟩ := run_append_view T hown hvv hu.size hn o.type
  have h5 := own_grown hown h3 hu (Nat.le_refl _)
  rw [hvx] at hx
  unfold Oper.wp execOp
  simp only [ho, resolve, invoke, builtin, Sem.run_bind, Sem.run_pure, Result.andThen_ok, List.map_toArray, List.map_cons, List.map_nil, hs, hx, hr]
  exact h _ w' h2 h5

/-- v is that list. -/
def Lst (w : World) (v : Value) (xs : List α) : Prop := ∃ p c, v = .slice p xs.length c ∧ View w p c xs
theorem Lst.upd {w w' : World} {v} {xs : List α} (h : Lst w v xs) (u : Upd [] w w') : Lst w' v xs := by
  obtain ⟨p, c, rfl, hv⟩ := h
  exact ⟨p, c, rfl, hv.upd u⟩
theorem Own.lst {w : World} {B v} {xs : List α} (h : Own et w B v xs) : Lst w v xs := h.view
theorem View.lst {w : World} {p c} {xs : List α} (h : View w p c xs) : Lst w (.slice p xs.length c) xs := ⟨p, c, rfl, h⟩
end

abbrev Pt := Int × Int
theorem ty22 : Ty2 22 24 := ⟨Try.underlying22, ⟨.agg #[.int .i64 0, .int .i64 0], by kernel_rfl, rfl⟩⟩
theorem ty30 : Ty2 30 34 := ⟨Try.underlying30, ⟨.agg #[.int .i64 0, .int .i64 0], by kernel_rfl, rfl⟩⟩

end Go.Proofs.Ytpoogkgekeocbaa
