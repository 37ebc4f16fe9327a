/- Lists of numbers in memory: read, and owned. -/
import Derived.Test.YtpoogkgekeocbaaI
namespace Go.Proofs.Ytpoogkgekeocbaa.Z
open Go.RowKit

theorem ret_bool {a b : Bool} (h : a = b) : Ending.returned (.bool a) = .returned (.bool b) := by rw [h]

theorem ret_int {k : IntKind} {a b : Int} (h : a = b) : Ending.returned (.int k a) = .returned (.int k b) := by rw [h]

theorem Try.info3 : (Try.prog.info? 3).map (fun i => (i.zero, i.size, i.bytes)) = some (some (.int .i64 0), 1, 8) := by kernel_rfl

def ints (x : List Int) : List Value := x.map fun (k : Int) => Value.int .i64 k

theorem ints_len (x : List Int) : (ints x).length = x.length := by simp [ints]

theorem ints_append (x y : List Int) : ints (x ++ y) = ints x ++ ints y := by simp [ints]

theorem ints_at {x : List Int} {i : Nat} {k : Int} (h : x[i]? = some k) : (ints x)[i]? = some (.int .i64 k) := by simp [ints, h]

theorem ints_one (x : List Int) : ∀ u ∈ ints x, u.oneCell' = true := by
  intro u hu
  obtain ⟨k, _, rfl⟩ := List.mem_map.1 hu
  rfl

/-- Such a list is read at that place. -/
structure View (w : World) (p : Option Addr) (cap : Nat) (xs : List Int) : Prop where
  le : xs.length ≤ cap
  max : cap ≤ maxLen
  nil : p = none → cap = 0
  cells : ∀ (i : Nat) (x : Int), xs[i]? = some x → ∃ b off, p = some ⟨b, off, none⟩ ∧ b < w.heap.size ∧ ∀ (j : Nat) (y : Int), xs[j]? = some y → w.cell? ⟨b, off + j, none⟩ = some (.int .i64 y)

theorem View.upd {w w' : World} {p cap xs} (h : View w p cap xs) (u : Upd [] w w') : View w' p cap xs := by
  refine ⟨h.le, h.max, h.nil, fun i x hx => ?_⟩
  obtain ⟨b, off, h1, h2, h3⟩ := h.cells i x hx
  exact ⟨b, off, h1, Nat.lt_of_lt_of_le h2 u.size, fun j y hy => (u.cell (p := ⟨b, off + j, none⟩) h2 (by simp)).trans (h3 j y hy)⟩

/-- A list of the call's own. -/
def Own (w : World) (B : Nat) (v : Value) (x : List Int) : Prop := w.ownsRow B 3 1 v x.length (ints x)

theorem Own.nil (w : World) (B : Nat) : Own w B (.slice none 0 0) [] := World.ownsRow_nil _ _ _ _

theorem Own.view {w : World} {B : Nat} {v : Value} {x : List Int} (h : Own w B v x) : ∃ p cap, v = .slice p x.length cap ∧ View w p cap x := by
  have h0 := h
  rcases h.2 with ⟨rfl, hn⟩ | ⟨g, cap, cur, rfl, hb, hg, hc, hm, _⟩
  · refine ⟨none, 0, by rw [hn], ⟨by omega, Nat.zero_le _, fun _ => rfl, fun i k hk => ?_⟩⟩
    have : i < x.length := (List.getElem?_eq_some_iff.1 hk).1
    omega
  · refine ⟨some ⟨g, 0, none⟩, cap, rfl, ⟨hc, hm, (fun e => by cases e), fun i k hk => ⟨g, 0, rfl, (Array.getElem?_eq_some_iff.1 hg).1, fun j u hu => ?_⟩⟩⟩
    have hj : j < x.length := (List.getElem?_eq_some_iff.1 hu).1
    have := World.ownsRow.cellAt h0 j (by omega)
    rw [Nat.zero_add, this, ints_at hu]

theorem Own.kept {w w' : World} {B : Nat} {v : Value} {x : List Int} (h : Own w B v x) {S : List Nat} (u : Upd S w w') (hS : ∀ k, k ∈ S → k < B) : Own w' B v x := by
  refine ⟨h.1, ?_⟩
  rcases h.2 with h2 | ⟨g, cap, cur, rfl, hb, hg, r⟩
  · exact .inl h2
  · refine .inr ⟨g, cap, cur, rfl, hb, ?_, r⟩
    rw [u.block g (Array.getElem?_eq_some_iff.1 hg).1 (fun e => by have := hS g e; omega)]
    exact hg

theorem Own.mono {w : World} {B B' : Nat} {v : Value} {x : List Int} (h : Own w B v x) (hB : B' ≤ B) : Own w B' v x := by
  refine ⟨h.1, ?_⟩
  rcases h.2 with h2 | ⟨g, cap, cur, rfl, hb, hg, r⟩
  · exact .inl h2
  · exact .inr ⟨g, cap, cur, rfl, Nat.le_trans hB hb, hg, r⟩

theorem Own.view' {w : World} {B : Nat} {p : Option Addr} {n cap : Nat} {x : List Int} (h : Own w B (.slice p n cap) x) : n = x.length ∧ View w p cap x := by
  obtain ⟨p', cap', he, hv⟩ := h.view
  simp only [Value.slice.injEq] at he
  obtain ⟨rfl, rfl, rfl⟩ := he
  exact ⟨rfl, hv⟩

theorem own_at {w : World} {B : Nat} {v : Value} {x : List Int} {k : Nat} (h : Own w B v x) (hl : x.length = k) : w.ownsRow B 3 1 v k (ints x) := by
  subst hl; exact h

theorem one_at (w : World) (v : Value) (t : TypeId) : ∀ (j : Nat) (u : Value), [v][j]? = some u → (w.alloc (.cells #[v] t)).cell? ((⟨w.heap.size, 0, none⟩ : Addr).add j) = some u := by
  intro j u hj
  match j, hj with
  | 0, hj => simp at hj; subst hj; simp [Addr.add]

/-- Behind an append of one number. -/
theorem own_after {w wr w1 : World} {B : Nat} {v v' : Value} {x : List Int} {u : Int} {o : Obj} (hown : Own wr B v x) (h : w1.ownsRow B 3 1 v' (x.length + 1) (ints x ++ [.int .i64 u]))
    (hg : (wr.alloc o).grownBy w1 v.ownBlock) (hu : Upd [] w wr) (hB : w.heap.size ≤ B) : Own w1 B v' (x ++ [u]) ∧ Upd [] w w1 := by
  refine ⟨?_, (hu.alloc o).grown hg fun k hk => .inr ?_⟩
  · unfold Own
    rw [ints_append, List.length_append]
    exact h
  · have := World.ownsRow.lt hown k hk
    omega

theorem add_flat {b off : Nat} (n : Nat) : (⟨b, off, none⟩ : Addr).add n = ⟨b, off + n, none⟩ := by
  unfold Addr.add
  split
  · rename_i h0; subst h0; rfl
  · rfl

theorem View.news {w : World} {p : Option Addr} {cap : Nat} {xs : List Int} (h : View w p cap xs) {ad : Addr} (hp : p = some ad) : ∀ (j : Nat) (u : Value), (ints xs)[j]? = some u → w.cell? (ad.add j) = some u := by
  intro j u hu
  unfold ints at hu
  rw [List.getElem?_map] at hu
  cases hx : xs[j]? with
  | none => rw [hx] at hu; cases hu
  | some y =>
    rw [hx] at hu
    simp only [Option.map_some, Option.some.injEq] at hu
    subst hu
    obtain ⟨b, off, h1, _, h3⟩ := h.cells j y hx
    rw [hp] at h1
    cases h1
    rw [add_flat]
    exact h3 j y hx

/-- 'append(out, xs...)': from whatever list. -/
theorem run_append_view {w : World} {B : Nat} {v : Value} {xs ys : List Int} {p : Option Addr} {cap : Nat} (hown : Own w B v xs) (hv : View w p cap ys) (hB : B ≤ w.heap.size) (hn : xs.length + ys.length ≤ 1048576) (ty : TypeId) :
    ∃ v' w', (Builtin.append_ #[66, 66] ty #[v, .slice p ys.length cap]).run Try.prog w = .ok v' w' ∧ Own w' B v' (xs ++ ys) ∧ w.grownBy w' v.ownBlock := by
  obtain ⟨i0, hi, hz0, hz1, hz2⟩ := info_parts Try.info3
  cases p with
  | none =>
    have hc := hv.nil rfl
    have hl : ys.length = 0 := by have := hv.le; omega
    have hy : ys = [] := List.eq_nil_of_length_eq_zero hl
    subst hy
    subst hc
    refine ⟨v, w, ?_, by rw [List.append_nil]; exact hown, ⟨rfl, rfl, rfl, Nat.le_refl _, fun _ _ _ => rfl⟩⟩
    exact run_append_owned_none (P := Try.prog) w B 66 ty 3 i0 1 Try.underlying66 hi v xs.length (ints xs) hown
  | some ad =>
    obtain ⟨v', w', h1, h2, h3, _⟩ := run_append_own (P := Try.prog) w B 66 ty 3 i0 (.int .i64 0) 1 8 Try.underlying66 hi hz0 hz1 hz2 rfl (by decide) v xs.length (ints xs) hown ad ys.length cap (ints ys) (by rw [ints_len]; omega)
      (hv.news rfl) (ints_one ys) (by unfold maxLen; omega) (by omega) hB
    refine ⟨v', w', h1, ?_, h3⟩
    unfold Own
    rw [ints_append, List.length_append]
    exact h2

theorem wpList_append_view {ops : Array Oper} {rest : List Oper} {o : Oper} {a : Act} {Q : Exit → Act → World → Prop} {w : World} (hgd : o.guard = none) (s x : Operand)
    (ho : o.op = .call { callee := .builtin .append, args := #[s, x], argTypes := #[66, 66] })
    (B : Nat) (v : Value) (xs ys : List Int) (p : Option Addr) (cap : Nat) (hs : a.eval s = v) (hx : a.eval x = .slice p ys.length cap) (hown : Own w B v xs) (hv : View w p cap ys) (hB : B ≤ w.heap.size) (hn : xs.length + ys.length ≤ 1048576)
    (h : ∀ v' w', Own w' B v' (xs ++ ys) → w.grownBy w' v.ownBlock → wpList Try.prog ops Q rest (a.put o.dst v') w') : wpList Try.prog ops Q (o :: rest) a w := by
  refine wpList_plain hgd fun _ hK => ?_
  obtain ⟨v', w', hr, h2, h3⟩ := run_append_view hown hv hB hn o.type
  unfold Oper.wp execOp
  simp only [ho, resolve, invoke, builtin, Sem.run_bind, Sem.run_pure, Result.andThen_ok, List.map_toArray, List.map_cons, List.map_nil, hs, hx, hr]
  exact hK _ _ (h v' w' h2 h3)

theorem own_grown {w wr w1 : World} {B : Nat} {v : Value} {x : List Int} (hown : Own wr B v x) (hg : wr.grownBy w1 v.ownBlock) (hu : Upd [] w wr) (hB : w.heap.size ≤ B) : Upd [] w w1 :=
  hu.grown hg fun k hk => .inr (by have := World.ownsRow.lt hown k hk; omega)

/-- One number is appended, inside a region that draws its order. -/
theorem step_append_int {ops : Array Oper} {o : Oper} {a : Act} {K : Act → World → Prop} {Q : Exit → Act → World → Prop} {E : Prop} {w : World} {u : Int} (hgd : o.guard = none) (s x : Operand)
    (ho : o.op = .call { callee := .builtin .append, args := #[s, x], argTypes := #[66, 66] })
    (w0 : World) (v : Value) (xs : List Int) (b c : Nat) (hs : a.eval s = v) (hx : a.eval x = .slice (some ⟨b, 0, none⟩) 1 c) (hc : w.cell? ⟨b, 0, none⟩ = some (.int .i64 u))
    (hown : Own w w0.heap.size v xs) (hu : Upd [] w0 w) (hn : xs.length + 1 ≤ 1048576)
    (h : ∀ v' w', Own w' w0.heap.size v' (xs ++ [u]) → Upd [] w0 w' → K (a.put o.dst v') w') :
    if Region.wanted o (yielded ops a.tmps) = true then Oper.wp Try.prog o a w K Q else E := by
  have hw : Region.wanted o (yielded ops a.tmps) = true := by simp [Region.wanted, hgd]
  rw [if_pos hw]
  obtain ⟨i0, hi, hz0, hz1, hz2⟩ := info_parts Try.info3
  obtain ⟨g, cap, w', hr, h2, h3, _, _⟩ := run_append_lies (P := Try.prog) w 66 o.type w0.heap.size 3 i0 (.int .i64 0) 1 8 Try.underlying66 hi hz0 hz1 hz2 rfl (by decide) v xs.length (ints xs) hown
    ⟨b, 0, none⟩ 1 c [.int .i64 u] rfl (fun j v hj => by match j, hj with | 0, hj => simp at hj; subst hj; rw [add_flat]; exact hc) (by intro u hu; simp at hu; subst hu; rfl) (by omega) (by unfold maxLen; omega) (by omega) hu.size _ rfl
  have h5 := own_grown hown h3 hu (Nat.le_refl _)
  unfold Oper.wp execOp
  simp only [ho, resolve, invoke, builtin, Sem.run_bind, Sem.run_pure, Result.andThen_ok, List.map_toArray, List.map_cons, List.map_nil, hs, hx, hr]
  refine h _ w' ?_ h5
  unfold Own
  rw [ints_append, List.length_append]
  exact h2

theorem cell_new (w : World) (v : Value) (t : TypeId) : (w.alloc (.cells #[v] t)).cell? ⟨w.heap.size, 0, none⟩ = some v := by
  have := one_at w v t 0 v rfl
  rwa [add_flat] at this

/-- 'l[1:]' -/
theorem View.tail {w : World} {b off cap : Nat} {x : Int} {xs : List Int} (h : View w (some ⟨b, off, none⟩) cap (x :: xs)) (p : Option Addr) (hp : p = some ⟨b, off + 1, none⟩ ∨ (cap = 1 ∧ p ≠ none)) : View w p (cap - 1) xs := by
  have hle := h.le
  simp only [List.length_cons] at hle
  refine ⟨by omega, by have := h.max; omega, fun e => ?_, fun i y hi => ?_⟩
  · rcases hp with hp | hp
    · rw [hp] at e; cases e
    · exact absurd e hp.2
  · rcases hp with hp | hp
    · obtain ⟨b', o', h1, h2, h3⟩ := h.cells (i + 1) y (by simpa using hi)
      cases h1
      refine ⟨b, off + 1, hp, h2, fun j z hz => ?_⟩
      have := h3 (j + 1) z (by simpa using hz)
      rw [show off + 1 + j = off + (j + 1) from by omega]
      exact this
    · have : i < xs.length := (List.getElem?_eq_some_iff.1 hi).1
      omega

/-- One number is appended. -/
theorem wpList_append_int {ops : Array Oper} {rest : List Oper} {o : Oper} {a : Act} {Q : Exit → Act → World → Prop} {w : World} {u : Int} (hgd : o.guard = none) (s x : Operand)
    (ho : o.op = .call { callee := .builtin .append, args := #[s, x], argTypes := #[66, 66] })
    (w0 : World) (v : Value) (xs : List Int) (b c : Nat) (hs : a.eval s = v) (hx : a.eval x = .slice (some ⟨b, 0, none⟩) 1 c) (hc : w.cell? ⟨b, 0, none⟩ = some (.int .i64 u))
    (hown : Own w w0.heap.size v xs) (hu : Upd [] w0 w) (hn : xs.length + 1 ≤ 1048576)
    (h : ∀ v' w', Own w' w0.heap.size v' (xs ++ [u]) → Upd [] w0 w' → wpList Try.prog ops Q rest (a.put o.dst v') w') : wpList Try.prog ops Q (o :: rest) a w := by
  refine wpList_plain hgd fun _ hK => ?_
  obtain ⟨i0, hi, hz0, hz1, hz2⟩ := info_parts Try.info3
  obtain ⟨g, cap, w', hr, h2, h3, _, _⟩ := run_append_lies (P := Try.prog) w 66 o.type w0.heap.size 3 i0 (.int .i64 0) 1 8 Try.underlying66 hi hz0 hz1 hz2 rfl (by decide) v xs.length (ints xs) hown
    ⟨b, 0, none⟩ 1 c [.int .i64 u] rfl (fun j v hj => by match j, hj with | 0, hj => simp at hj; subst hj; rw [add_flat]; exact hc) (by intro u hu; simp at hu; subst hu; rfl) (by omega) (by unfold maxLen; omega) (by omega) hu.size _ rfl
  have h5 := own_grown hown h3 hu (Nat.le_refl _)
  unfold Oper.wp execOp
  simp only [ho, resolve, invoke, builtin, Sem.run_bind, Sem.run_pure, Result.andThen_ok, List.map_toArray, List.map_cons, List.map_nil, hs, hx, hr]
  refine hK _ _ (h _ w' ?_ h5)
  unfold Own
  rw [ints_append, List.length_append]
  exact h2

/-- 'l[lo:hi]' -/
theorem View.slice {w : World} {p : Option Addr} {cap : Nat} {xs : List Int} (h : View w p cap xs) {lo hi : Nat} (h1 : lo ≤ hi) (h2 : hi ≤ xs.length) (hp : p ≠ none) : View w (if cap = lo then p else p.map (·.add lo)) (cap - lo) ((xs.drop lo).take (hi - lo)) := by
  have hle := h.le
  have hl : ((xs.drop lo).take (hi - lo)).length = hi - lo := by rw [List.length_take, List.length_drop]; omega
  refine ⟨by omega, by have := h.max; omega, fun e => ?_, fun i y hi' => ?_⟩
  · exfalso
    split at e
    · exact hp e
    · cases p with
      | none => exact hp rfl
      | some a => cases e
  · have hil : i < hi - lo := by rw [← hl]; exact (List.getElem?_eq_some_iff.1 hi').1
    have get : ∀ j z, ((xs.drop lo).take (hi - lo))[j]? = some z → xs[lo + j]? = some z := by
      intro j z hz
      have hjl : j < hi - lo := by rw [← hl]; exact (List.getElem?_eq_some_iff.1 hz).1
      rwa [List.getElem?_take_of_lt hjl, List.getElem?_drop] at hz
    obtain ⟨b, off, hb, hlt, hc⟩ := h.cells (lo + i) y (get i y hi')
    rw [if_neg (by omega), hb]
    refine ⟨b, off + lo, by rw [Option.map_some, add_flat], hlt, fun j z hz => ?_⟩
    rw [Nat.add_assoc]
    exact hc (lo + j) z (get j z hz)

theorem View.slice2 {w : World} {b off cap : Nat} {xs : List Int} (h : View w (some ⟨b, off, none⟩) cap xs) {lo hi k : Nat} {p : Option Addr} (h1 : lo ≤ hi) (h2 : hi ≤ xs.length) (hp : (¬ cap = lo ∧ p = some ⟨b, off + lo, none⟩) ∨ (cap = lo ∧ p = some ⟨b, off, none⟩)) (hk : k = cap - lo) : View w p k ((xs.drop lo).take (hi - lo)) := by
  have := h.slice h1 h2 (by simp)
  rw [← hk] at this
  rcases hp with ⟨hn, rfl⟩ | ⟨hn, rfl⟩
  · rw [if_neg hn, Option.map_some, add_flat] at this; exact this
  · rw [if_pos hn] at this; exact this

theorem Own.ge {w : World} {B : Nat} {p : Option Addr} {n c : Nat} {x : List Int} (h : Own w B (.slice p n c) x) : ∀ b off k, p = some ⟨b, off, k⟩ → B ≤ b := by
  intro b off k hp
  rcases h.2 with ⟨h2, _⟩ | ⟨g, cap, cur, h2, hb, _⟩
  · simp only [Value.slice.injEq] at h2
    rw [hp] at h2; cases h2.1
  · simp only [Value.slice.injEq] at h2
    rw [hp] at h2
    cases h2.1
    exact hb

theorem Own.keptF {w w' : World} {B : Nat} {v : Value} {x : List Int} {T : List Nat} {B0 : Nat} (h : Own w B v x) (u : UpdF T B0 w w') (hT : ∀ k, k ∈ T → k < B) : Own w' B v x := by
  refine ⟨h.1, ?_⟩
  rcases h.2 with h2 | ⟨g, cap, cur, rfl, hb, hg, r⟩
  · exact .inl h2
  · refine .inr ⟨g, cap, cur, rfl, hb, ?_, r⟩
    rw [u.block g (Array.getElem?_eq_some_iff.1 hg).1 (fun e => by have := hT g e; omega) (.inr ⟨_, _, _, hg⟩)]
    exact hg

/-- An own list's block is a row of cells. -/
theorem Own.row {w : World} {B : Nat} {v : Value} {x : List Int} (h : Own w B v x) : ∀ k, v.ownBlock = some k → B ≤ k ∧ ∃ c e f, w.heap[k]? = some (.cells c e f) := by
  intro k hk
  rcases h.2 with ⟨rfl, _⟩ | ⟨g, cap, cur, rfl, hb, hg, _⟩
  · cases hk
  · cases hk
    exact ⟨hb, _, _, _, hg⟩

/-- One number is appended, inside a region that draws its order; from a list that lies above B. -/
theorem step_append_B {ops : Array Oper} {o : Oper} {a : Act} {K : Act → World → Prop} {Q : Exit → Act → World → Prop} {E : Prop} {w : World} {u : Int} (hgd : o.guard = none) (s x : Operand)
    (ho : o.op = .call { callee := .builtin .append, args := #[s, x], argTypes := #[66, 66] })
    (B : Nat) (v : Value) (xs : List Int) (b c : Nat) (hs : a.eval s = v) (hx : a.eval x = .slice (some ⟨b, 0, none⟩) 1 c) (hc : w.cell? ⟨b, 0, none⟩ = some (.int .i64 u))
    (hown : Own w B v xs) (hB : B ≤ w.heap.size) (hn : xs.length + 1 ≤ 1048576)
    (h : ∀ v' w', Own w' B v' (xs ++ [u]) → w.grownBy w' v.ownBlock → K (a.put o.dst v') w') :
    if Region.wanted o (yielded ops a.tmps) = true then Oper.wp Try.prog o a w K Q else E := by
  have hw : Region.wanted o (yielded ops a.tmps) = true := by simp [Region.wanted, hgd]
  rw [if_pos hw]
  obtain ⟨i0, hi, hz0, hz1, hz2⟩ := info_parts Try.info3
  obtain ⟨g, cap, w', hr, h2, h3, _, _⟩ := run_append_lies (P := Try.prog) w 66 o.type B 3 i0 (.int .i64 0) 1 8 Try.underlying66 hi hz0 hz1 hz2 rfl (by decide) v xs.length (ints xs) hown
    ⟨b, 0, none⟩ 1 c [.int .i64 u] rfl (fun j v hj => by match j, hj with | 0, hj => simp at hj; subst hj; rw [add_flat]; exact hc) (by intro u hu; simp at hu; subst hu; rfl) (by omega) (by unfold maxLen; omega) (by omega) hB _ rfl
  unfold Oper.wp execOp
  simp only [ho, resolve, invoke, builtin, Sem.run_bind, Sem.run_pure, Result.andThen_ok, List.map_toArray, List.map_cons, List.map_nil, hs, hx, hr]
  refine h _ w' ?_ h3
  unfold Own
  rw [ints_append, List.length_append]
  exact h2

/-- v is that list. -/
def Lst (w : World) (v : Value) (xs : List Int) : Prop := ∃ p c, v = .slice p xs.length c ∧ View w p c xs

theorem Lst.upd {w w' : World} {v xs} (h : Lst w v xs) (u : Upd [] w w') : Lst w' v xs := by
  obtain ⟨p, c, rfl, hv⟩ := h
  exact ⟨p, c, rfl, hv.upd u⟩

theorem Own.lst {w : World} {B v xs} (h : Own w B v xs) : Lst w v xs := h.view

theorem View.lst {w : World} {p c xs} (h : View w p c xs) : Lst w (.slice p xs.length c) xs := ⟨p, c, rfl, h⟩

theorem lst_new (w : World) (xs : List Int) (n : Nat) (hn : xs.length = n) (hm : n ≤ 1048576) : Lst (w.alloc (.cells (ints xs).toArray 3)) (.slice (some ⟨w.heap.size, 0, none⟩) n n) xs := by
  subst hn
  refine ⟨_, _, rfl, Nat.le_refl _, by unfold maxLen; omega, (fun e => by cases e), fun i x hi => ⟨_, _, rfl, by simp, fun j y hj => ?_⟩⟩
  have r := IsRow.new w (ints xs) 3
  rw [Nat.zero_add, r.cell]
  exact ints_at hj

theorem own_new (w : World) (xs : List Int) (n : Nat) (hn : xs.length = n) (hm : n ≤ 1048576) : Own (w.alloc (.cells (ints xs).toArray 3)) w.heap.size (.slice (some ⟨w.heap.size, 0, none⟩) n n) xs := by
  subst hn
  refine ⟨by rw [ints_len, Nat.mul_one], .inr ⟨w.heap.size, xs.length, (ints xs).toArray, rfl, Nat.le_refl _, IsRow.new w (ints xs) 3, Nat.le_refl _, by unfold maxLen; omega, by simp [ints_len], ?_⟩⟩
  rw [Nat.mul_one, List.take_of_length_le (by simp [ints_len])]

/-- A number is stored into an own list. -/
theorem Own.store {w : World} {B g n cap i : Nat} {x : List Int} (h : Own w B (.slice (some ⟨g, 0, none⟩) n cap) x) (u : Int) (hi : i < x.length) : Own (w.setCell ⟨g, i, none⟩ (.int .i64 u)) B (.slice (some ⟨g, 0, none⟩) n cap) (x.set i u) := by
  obtain ⟨h1, h2⟩ := h
  rcases h2 with ⟨h2, _⟩ | ⟨g', cap', cur, h2, hb, hg, hc, hm, hs, ht⟩
  · cases h2
  · simp only [Value.slice.injEq, Option.some.injEq, Addr.mk.injEq] at h2
    obtain ⟨⟨rfl, _, _⟩, rfl, rfl⟩ := h2
    refine ⟨by rw [ints_len, Nat.mul_one], .inr ⟨g, cap, cur.setIfInBounds i (.int .i64 u), by rw [List.length_set], hb, ?_, by rw [List.length_set]; exact hc, hm, by simpa using hs, ?_⟩⟩
    · simp [World.setCell, Array.getElem?_modify, hg]
    · rw [List.length_set, Array.toList_setIfInBounds, List.take_set, ht]
      simp [ints, List.map_set]

theorem Own.free {w : World} {B g n cap : Nat} {x : List Int} (h : Own w B (.slice (some ⟨g, 0, none⟩) n cap) x) (i : Nat) : w.frozen? ⟨g, i, none⟩ = false := by
  obtain ⟨h1, h2⟩ := h
  rcases h2 with ⟨h2, _⟩ | ⟨g', cap', cur, h2, hb, hg, _⟩
  · cases h2
  · simp only [Value.slice.injEq, Option.some.injEq, Addr.mk.injEq] at h2
    obtain ⟨⟨rfl, _, _⟩, rfl, rfl⟩ := h2
    simp [World.frozen?, hg]

theorem Own.first {w : World} {B : Nat} {v : Value} {x : List Int} (h : Own w B v x) (hx : 0 < x.length) : ∃ g cap, v = .slice (some ⟨g, 0, none⟩) x.length cap ∧ B ≤ g := by
  rcases h.2 with ⟨_, hn⟩ | ⟨g, cap, cur, rfl, hb, _⟩
  · omega
  · exact ⟨g, cap, rfl, hb⟩


theorem Own.keptNB {w w' : World} {B : Nat} {v : Value} {x : List Int} (h : Own w B v x) {S : List Nat} (u : Upd S w w') (hn : ∀ z, v.ownBlock = some z → z ∉ S) : Own w' B v x := by
  refine ⟨h.1, ?_⟩
  rcases h.2 with h2 | ⟨g, cap, cur, rfl, hb, hg, r⟩
  · exact .inl h2
  · refine .inr ⟨g, cap, cur, rfl, hb, ?_, r⟩
    rw [u.block g (Array.getElem?_eq_some_iff.1 hg).1 (hn g rfl)]
    exact hg

end Go.Proofs.Ytpoogkgekeocbaa.Z
