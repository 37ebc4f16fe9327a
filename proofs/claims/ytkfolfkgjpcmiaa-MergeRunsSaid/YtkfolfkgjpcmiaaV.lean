/- Lists of numbers in memory: read, and owned. The key; the order. -/
import Derived.Test.YtkfolfkgjpcmiaaRows
import Derived.Test.YtkfolfkgjpcmiaaLib
import Derived.Test.YtkfolfkgjpcmiaaMath
import Derived.Deep.AppendLies
import Derived.Lib.Hide
import Derived.BigQuiet
import Derived.Deep.QuietTactic
import Derived.Deep.RegionHeld3
namespace Go.Proofs.Ytkfolfkgjpcmiaa
open Go.RowKit

theorem ret_bool {a b : Bool} (h : a = b) : Ending.returned (.bool a) = .returned (.bool b) := by rw [h]
theorem ret_int {k : IntKind} {a b : Int} (h : a = b) : Ending.returned (.int k a) = .returned (.int k b) := by rw [h]

theorem Try.info3 : (Try.prog.info? 3).map (fun i => (i.zero, i.size, i.bytes)) = some (some (.int .i64 0), 1, 8) := by kernel_rfl

def ints (x : List Int) : List Value := x.map fun (k : Int) => Value.int .i64 k
theorem ints_len (x : List Int) : (ints x).length = x.length := by simp [ints]
theorem ints_append (x y : List Int) : ints (x ++ y) = ints x ++ ints y := by simp [ints]
theorem ints_at {x : List Int} {i : Nat} {k : Int} (h : x[i]? = some k) : (ints x)[i]? = some (.int .i64 k) := by simp [ints, h]
theorem ints_one (x : List Int) : ∀ u ∈ ints x, u.oneCell' = true := by
  intro u hu
  obtain ⟨k, _, rfl⟩ := List.mem_map.1 hu
  rfl

/-- Such a list is read at that place. -/
structure View (w : World) (p : Option Addr) (cap : Nat) (xs : List Int) : Prop where
  le : xs.length ≤ cap
  max : cap ≤ maxLen
  nil : p = none → cap = 0
  cells : ∀ (i : Nat) (x : Int), xs[i]? = some x → ∃ b off, p = some ⟨b, off, none⟩ ∧ b < w.heap.size ∧ ∀ (j : Nat) (y : Int), xs[j]? = some y → w.cell? ⟨b, off + j, none⟩ = some (.int .i64 y)

theorem View.upd {w w' : World} {p cap xs} (h : View w p cap xs) (u : Upd [] w w') : View w' p cap xs := by
  refine ⟨h.le, h.max, h.nil, fun i x hx => ?_⟩
  obtain ⟨b, off, h1, h2, h3⟩ := h.cells i x hx
  exact ⟨b, off, h1, Nat.lt_of_lt_of_le h2 u.size, fun j y hy => (u.cell (p := ⟨b, off + j, none⟩) h2 (by simp)).trans (h3 j y hy)⟩

/-- A list of the call's own. -/
def Own (w : World) (B : Nat) (v : Value) (x : List Int) : Prop := w.ownsRow B 3 1 v x.length (ints x)

theorem Own.nil (w : World) (B : Nat) : Own w B (.slice none 0 0) [] := World.ownsRow_nil _ _ _ _

theorem Own.view {w : World} {B : Nat} {v : Value} {x : List Int} (h : Own w B v x) : ∃ p cap, v = .slice p x.length cap ∧ View w p cap x := by
  have h0 := h
  rcases h.2 with ⟨rfl, hn⟩ | ⟨g, cap, cur, rfl, hb, hg, hc, hm, _⟩
  · refine ⟨none, 0, by rw [hn], ⟨by omega, Nat.zero_le _, fun _ => rfl, fun i k hk => ?_⟩⟩
    have : i < x.length := (List.getElem?_eq_some_iff.1 hk).1
    omega
  · refine ⟨some ⟨g, 0, none⟩, cap, rfl, ⟨hc, hm, (fun e => by cases e), fun i k hk => ⟨g, 0, rfl, (Array.getElem?_eq_some_iff.1 hg).1, fun j u hu => ?_⟩⟩⟩
    have hj : j < x.length := (List.getElem?_eq_some_iff.1 hu).1
    have := World.ownsRow.cellAt h0 j (by omega)
    rw [Nat.zero_add, this, ints_at hu]

theorem Own.kept {w w' : World} {B : Nat} {v : Value} {x : List Int} (h : Own w B v x) {S : List Nat} (u : Upd S w w') (hS : ∀ k, k ∈ S → k < B) : Own w' B v x := by
  refine ⟨h.1, ?_⟩
  rcases h.2 with h2 | ⟨g, cap, cur, rfl, hb, hg, r⟩
  · exact .inl h2
  · refine .inr ⟨g, cap, cur, rfl, hb, ?_, r⟩
    rw [u.block g (Array.getElem?_eq_some_iff.1 hg).1 (fun e => by have := hS g e; omega)]
    exact hg

theorem Own.mono {w : World} {B B' : Nat} {v : Value} {x : List Int} (h : Own w B v x) (hB : B' ≤ B) : Own w B' v x := by
  refine ⟨h.1, ?_⟩
  rcases h.2 with h2 | ⟨g, cap, cur, rfl, hb, hg, r⟩
  · exact .inl h2
  · exact .inr ⟨g, cap, cur, rfl, Nat.le_trans hB hb, hg, r⟩

theorem Own.view' {w : World} {B : Nat} {p : Option Addr} {n cap : Nat} {x : List Int} (h : Own w B (.slice p n cap) x) : n = x.length ∧ View w p cap x := by
  obtain ⟨p', cap', he, hv⟩ := h.view
  simp only [Value.slice.injEq] at he
  obtain ⟨rfl, rfl, rfl⟩ := he
  exact ⟨rfl, hv⟩

theorem own_at {w : World} {B : Nat} {v : Value} {x : List Int} {k : Nat} (h : Own w B v x) (hl : x.length = k) : w.ownsRow B 3 1 v k (ints x) := by
  subst hl; exact h

theorem one_at (w : World) (v : Value) (t : TypeId) : ∀ (j : Nat) (u : Value), [v][j]? = some u → (w.alloc (.cells #[v] t)).cell? ((⟨w.heap.size, 0, none⟩ : Addr).add j) = some u := by
  intro j u hj
  match j, hj with
  | 0, hj => simp at hj; subst hj; simp [Addr.add]

/-- Behind an append of one number. -/
theorem own_after {w wr w1 : World} {B : Nat} {v v' : Value} {x : List Int} {u : Int} {o : Obj} (hown : Own wr B v x) (h : w1.ownsRow B 3 1 v' (x.length + 1) (ints x ++ [.int .i64 u]))
    (hg : (wr.alloc o).grownBy w1 v.ownBlock) (hu : Upd [] w wr) (hB : w.heap.size ≤ B) : Own w1 B v' (x ++ [u]) ∧ Upd [] w w1 := by
  refine ⟨?_, (hu.alloc o).grown hg fun k hk => .inr ?_⟩
  · unfold Own
    rw [ints_append, List.length_append]
    exact h
  · have := World.ownsRow.lt hown k hk
    omega

theorem add_flat {b off : Nat} (n : Nat) : (⟨b, off, none⟩ : Addr).add n = ⟨b, off + n, none⟩ := by
  unfold Addr.add
  split
  · rename_i h0; subst h0; rfl
  · rfl

theorem View.news {w : World} {p : Option Addr} {cap : Nat} {xs : List Int} (h : View w p cap xs) {ad : Addr} (hp : p = some ad) : ∀ (j : Nat) (u : Value), (ints xs)[j]? = some u → w.cell? (ad.add j) = some u := by
  intro j u hu
  unfold ints at hu
  rw [List.getElem?_map] at hu
  cases hx : xs[j]? with
  | none => rw [hx] at hu; cases hu
  | some y =>
    rw [hx] at hu
    simp only [Option.map_some, Option.some.injEq] at hu
    subst hu
    obtain ⟨b, off, h1, _, h3⟩ := h.cells j y hx
    rw [hp] at h1
    cases h1
    rw [add_flat]
    exact h3 j y hx

/-- 'append(out, xs...)': from whatever list. -/
theorem run_append_view {w : World} {B : Nat} {v : Value} {xs ys : List Int} {p : Option Addr} {cap : Nat} (hown : Own w B v xs) (hv : View w p cap ys) (hB : B ≤ w.heap.size) (hn : xs.length + ys.length ≤ 1048576) (ty : TypeId) :
    ∃ v' w', (Builtin.append_ #[22, 22] ty #[v, .slice p ys.length cap]).run Try.prog w = .ok v' w' ∧ Own w' B v' (xs ++ ys) ∧ w.grownBy w' v.ownBlock := by
  obtain ⟨i0, hi, hz0, hz1, hz2⟩ := info_parts Try.info3
  cases p with
  | none =>
    have hc := hv.nil rfl
    have hl : ys.length = 0 := by have := hv.le; omega
    have hy : ys = [] := List.eq_nil_of_length_eq_zero hl
    subst hy
    subst hc
    refine ⟨v, w, ?_, by rw [List.append_nil]; exact hown, ⟨rfl, rfl, rfl, Nat.le_refl _, fun _ _ _ => rfl⟩⟩
    exact run_append_owned_none (P := Try.prog) w B 22 ty 3 i0 1 Try.underlying22 hi v xs.length (ints xs) hown
  | some ad =>
    obtain ⟨v', w', h1, h2, h3, _⟩ := run_append_own (P := Try.prog) w B 22 ty 3 i0 (.int .i64 0) 1 8 Try.underlying22 hi hz0 hz1 hz2 rfl (by decide) v xs.length (ints xs) hown ad ys.length cap (ints ys) (by rw [ints_len]; omega)
      (hv.news rfl) (ints_one ys) (by unfold maxLen; omega) (by omega) hB
    refine ⟨v', w', h1, ?_, h3⟩
    unfold Own
    rw [ints_append, List.length_append]
    exact h2

theorem wpList_append_view {ops : Array Oper} {rest : List Oper} {o : Oper} {a : Act} {Q : Exit → Act → World → Prop} {w : World} (hgd : o.guard = none) (s x : Operand)
    (ho : o.op = .call { callee := .builtin .append, args := #[s, x], argTypes := #[22, 22] })
    (B : Nat) (v : Value) (xs ys : List Int) (p : Option Addr) (cap : Nat) (hs : a.eval s = v) (hx : a.eval x = .slice p ys.length cap) (hown : Own w B v xs) (hv : View w p cap ys) (hB : B ≤ w.heap.size) (hn : xs.length + ys.length ≤ 1048576)
    (h : ∀ v' w', Own w' B v' (xs ++ ys) → w.grownBy w' v.ownBlock → wpList Try.prog ops Q rest (a.put o.dst v') w') : wpList Try.prog ops Q (o :: rest) a w := by
  refine wpList_plain hgd fun _ hK => ?_
  obtain ⟨v', w', hr, h2, h3⟩ := run_append_view hown hv hB hn o.type
  unfold Oper.wp execOp
  simp only [ho, resolve, invoke, builtin, Sem.run_bind, Sem.run_pure, Result.andThen_ok, List.map_toArray, List.map_cons, List.map_nil, hs, hx, hr]
  exact hK _ _ (h v' w' h2 h3)

theorem own_grown {w wr w1 : World} {B : Nat} {v : Value} {x : List Int} (hown : Own wr B v x) (hg : wr.grownBy w1 v.ownBlock) (hu : Upd [] w wr) (hB : w.heap.size ≤ B) : Upd [] w w1 :=
  hu.grown hg fun k hk => .inr (by have := World.ownsRow.lt hown k hk; omega)

/-- The key of a number, as the code reckons it. -/
def key (n : Int) : Int := if n < 0 then wrap64 (-wrap64 (wrap64 ((wrap64 (-wrap64 (n + 1))).tdiv 10) + 1)) else wrap64 (n.tdiv 10)

theorem tens_key (n : Int) (w : World) : Calls Try.prog 23 #[.int .i64 n] w fun e w' => e = .returned (.int .i64 (key n)) ∧ w' = w := by
  by_cases h : n < 0
  · go_enter Try.func23, Try.ntmps23
    go_wp2
    go_ret
    exact ⟨ret_int (by unfold key; rw [if_pos h]), rfl⟩
  · go_enter Try.func23, Try.ntmps23
    go_wp2
    go_ret
    exact ⟨ret_int (by unfold key; rw [if_neg (by omega)]), rfl⟩

/-- The order of two numbers. -/
def ord (a b : Int) : Int := if key a < key b then -1 else if key b < key a then 1 else 0
theorem ord_lt {a b : Int} : ord a b < 0 ↔ key a < key b := by unfold ord; split <;> (try split) <;> omega
theorem ord_eq {a b : Int} : ord a b = 0 ↔ key a = key b := by unfold ord; split <;> (try split) <;> omega

theorem ord_any (a b : Int) (w : World) : Calls Try.prog 11 #[.int .i64 a, .int .i64 b] w fun e w' => e = .returned (.int .i64 (ord a b)) ∧ w' = w := by
  by_cases h1 : key a < key b
  · go_enter Try.func11, Try.ntmps11
    go_wp2_with (go_at_call 23; refine (tens_key _ _).mono ?_; rintro e w' ⟨rfl, rfl⟩)
    go_ret
    exact ⟨ret_int (by unfold ord; rw [if_pos h1]), rfl⟩
  · by_cases h2 : key b < key a
    · go_enter Try.func11, Try.ntmps11
      go_wp2_with (go_at_call 23; refine (tens_key _ _).mono ?_; rintro e w' ⟨rfl, rfl⟩)
      go_ret
      exact ⟨ret_int (by unfold ord; rw [if_neg (by omega), if_pos h2]), rfl⟩
    · go_enter Try.func11, Try.ntmps11
      go_wp2_with (go_at_call 23; refine (tens_key _ _).mono ?_; rintro e w' ⟨rfl, rfl⟩)
      go_ret
      exact ⟨ret_int (by unfold ord; rw [if_neg (by omega), if_neg (by omega)]), rfl⟩

end Go.Proofs.Ytkfolfkgjpcmiaa
