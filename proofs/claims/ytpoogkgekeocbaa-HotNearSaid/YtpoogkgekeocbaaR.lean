/- Lists of rows. -/
import Derived.Test.YtpoogkgekeocbaaZ
namespace Go.Proofs.Ytpoogkgekeocbaa
open Go.RowKit

/-- a row as it lies there: its Y, and the slice of its X's -/
structure Rw where
  y : Int
  p : Option Addr
  n : Nat
  c : Nat
instance : Enc Rw := ⟨fun r => .int .i64 r.y, fun r => .slice r.p r.n r.c, fun _ => rfl, fun _ => rfl⟩

section
variable {α : Type} [Enc α] {et st : TypeId}
structure TyR (st et : TypeId) : Prop where
  un : Try.prog.underlying st = some (.slice et)
  info : ∃ z, (Try.prog.info? et).map (fun i => (i.zero, i.size, i.bytes)) = some (some z, 2, 32) ∧ z.cells.size = 2

theorem TyR.parts (T : TyR st et) : ∃ i z, Try.prog.info? et = some i ∧ i.zero = some z ∧ i.size = 2 ∧ i.bytes = 32 ∧ z.cells.size = 2 := by
  obtain ⟨z, h, hz⟩ := T.info
  cases hi : Try.prog.info? et with
  | none => rw [hi] at h; cases h
  | some i =>
    rw [hi] at h
    simp only [Option.map_some, Option.some.injEq, Prod.mk.injEq] at h
    exact ⟨i, z, rfl, h.1, h.2.1, h.2.2, hz⟩

theorem runR_append_one (T : TyR st et) {w : World} {B : Nat} {v : Value} {xs : List α} {u : α} {b c : Nat} (hown : Own et w B v xs) (hc : OneAt w b u) (hB : B ≤ w.heap.size) (hn : xs.length + 1 ≤ 1048576) (ty : TypeId) :
    ∃ g cap w', (Builtin.append_ #[st, st] ty #[v, .slice (some ⟨b, 0, none⟩) 1 c]).run Try.prog w = .ok (.slice (some ⟨g, 0, none⟩) (xs.length + 1) cap) w' ∧ Own et w' B (.slice (some ⟨g, 0, none⟩) (xs.length + 1) cap) (xs ++ [u]) ∧ w.grownBy w' v.ownBlock ∧ (v.ownBlock = some g ∨ g = w.heap.size) := by
  obtain ⟨i0, z, hi, hz0, hz1, hz2, hz3⟩ := T.parts
  obtain ⟨g, cap, w', hr, h2, h3, h4, _⟩ := run_append_lies (P := Try.prog) w st ty B et i0 z 2 32 T.un hi hz0 hz1 hz2 hz3 (by decide) v xs.length (cells2 xs) hown
    ⟨b, 0, none⟩ 1 c [Enc.c0 u, Enc.c1 u] rfl (fun j v hj => by
      match j, hj with
      | 0, hj => simp at hj; subst hj; rw [add_flat]; exact hc.1
      | 1, hj => simp at hj; subst hj; rw [add_flat]; exact hc.2
      | j + 2, hj => simp at hj) (by
      intro v hv
      simp only [List.mem_cons, List.mem_nil_iff, or_false] at hv
      rcases hv with rfl | rfl
      · exact Enc.one0 u
      · exact Enc.one1 u) (by omega) (by unfold maxLen; omega) (by omega) hB _ rfl
  refine ⟨g, cap, w', hr, ?_, h3, h4⟩
  unfold Own
  rw [cells2_append, List.length_append]
  exact h2

theorem stepR_append_one (T : TyR st et) {ops : Array Oper} {o : Oper} {a : Act} {K : Act → World → Prop} {Q : Exit → Act → World → Prop} {E : Prop} {w : World} {u : α} (hgd : o.guard = none) (s x : Operand)
    (ho : o.op = .call { callee := .builtin .append, args := #[s, x], argTypes := #[st, st] })
    (B : Nat) (v : Value) (xs : List α) (b c : Nat) (hs : a.eval s = v) (hx : a.eval x = .slice (some ⟨b, 0, none⟩) 1 c) (hc : OneAt w b u)
    (hown : Own et w B v xs) (hB : B ≤ w.heap.size) (hn : xs.length + 1 ≤ 1048576)
    (h : ∀ g cap w', Own et w' B (.slice (some ⟨g, 0, none⟩) (xs.length + 1) cap) (xs ++ [u]) → w.grownBy w' v.ownBlock → (v.ownBlock = some g ∨ g = w.heap.size) → K (a.put o.dst (.slice (some ⟨g, 0, none⟩) (xs.length + 1) cap)) w') :
    if Region.wanted o (yielded ops a.tmps) = true then Oper.wp Try.prog o a w K Q else E := by
  have hw : Region.wanted o (yielded ops a.tmps) = true := by simp [Region.wanted, hgd]
  rw [if_pos hw]
  obtain ⟨g, cap, w', hr, h2, h3, h4⟩ := runR_append_one (c := c) T hown hc hB hn o.type
  unfold Oper.wp execOp
  simp only [ho, resolve, invoke, builtin, Sem.run_bind, Sem.run_pure, Result.andThen_ok, List.map_toArray, List.map_cons, List.map_nil, hs, hx, hr]
  exact h g cap w' h2 h3 h4

theorem wpListR_append_oneg {α : Type} [Enc α] {et st : TypeId} (T : TyR st et) {ops : Array Oper} {rest : List Oper} {o : Oper} {a : Act} {Q : Exit → Act → World → Prop} {w : World} {u : α} (hgd : o.guard = none) (s x : Operand)
    (ho : o.op = .call { callee := .builtin .append, args := #[s, x], argTypes := #[st, st] })
    (w0 : World) (v : Value) (xs : List α) (b c : Nat) (hs : a.eval s = v) (hx : a.eval x = .slice (some ⟨b, 0, none⟩) 1 c) (hc : OneAt w b u)
    (hown : Own et w w0.heap.size v xs) (hu : Upd [] w0 w) (hn : xs.length + 1 ≤ 1048576)
    (h : ∀ v' w', Own et w' w0.heap.size v' (xs ++ [u]) → Upd [] w0 w' → Upd v.ownBlock.toList w w' → wpList Try.prog ops Q rest (a.put o.dst v') w') : wpList Try.prog ops Q (o :: rest) a w := by
  refine wpList_plain hgd fun _ hK => ?_
  obtain ⟨g, cap, w', hr, h2, h3, _⟩ := runR_append_one (c := c) T hown hc hu.size hn o.type
  have h5 := own_grown hown h3 hu (Nat.le_refl _)
  have h6 : Upd v.ownBlock.toList w w' := (Upd.refl _ w).grown h3 (fun k hk => .inl (by simp [hk]))
  unfold Oper.wp execOp
  simp only [ho, resolve, invoke, builtin, Sem.run_bind, Sem.run_pure, Result.andThen_ok, List.map_toArray, List.map_cons, List.map_nil, hs, hx, hr]
  exact hK _ _ (h _ w' h2 h5 h6)

theorem Own.rowT {w : World} {B : Nat} {v : Value} {x : List α} (h : Own et w B v x) : ∀ k, v.ownBlock = some k → B ≤ k ∧ ∃ c f, w.heap[k]? = some (.cells c et f) := by
  intro k hk
  rcases h.2 with ⟨rfl, _⟩ | ⟨g, cap, cur, rfl, hb, hg, _⟩
  · cases hk
  · cases hk
    exact ⟨hb, _, _, hg⟩
/-- Blocks of other types are turned. -/
theorem Own.keptT {w w' : World} {B : Nat} {v : Value} {x : List α} (h : Own et w B v x) {S : List Nat} (u : Upd S w w') (hn : ∀ k, k ∈ S → k < B ∨ ∃ c e f, w.heap[k]? = some (.cells c e f) ∧ e ≠ et) : Own et w' B v x := by
  refine h.keptNB u fun z hz hm => ?_
  obtain ⟨h1, c, f, h2⟩ := h.rowT z hz
  rcases hn z hm with h3 | ⟨c', e, f', h3, h4⟩
  · omega
  · rw [h2] at h3
    cases h3
    exact h4 rfl
end
theorem tyR59 : TyR 59 68 := ⟨Try.underlying59, ⟨.agg #[.int .i64 0, .slice none 0 0], by kernel_rfl, rfl⟩⟩

theorem Z.Own.rowT {w : World} {B : Nat} {v : Value} {x : List Int} (h : Z.Own w B v x) : ∀ k, v.ownBlock = some k → B ≤ k ∧ ∃ c f, w.heap[k]? = some (.cells c 3 f) := by
  intro k hk
  rcases h.2 with ⟨rfl, _⟩ | ⟨g, cap, cur, rfl, hb, hg, _⟩
  · cases hk
  · cases hk
    exact ⟨hb, _, _, hg⟩
theorem Z.Own.keptT {w w' : World} {B : Nat} {v : Value} {x : List Int} (h : Z.Own w B v x) {S : List Nat} (u : Upd S w w') (hn : ∀ k, k ∈ S → k < B ∨ ∃ c e f, w.heap[k]? = some (.cells c e f) ∧ e ≠ 3) : Z.Own w' B v x := by
  refine h.keptNB u fun z hz hm => ?_
  obtain ⟨h1, c, f, h2⟩ := Z.Own.rowT h z hz
  rcases hn z hm with h3 | ⟨c', e, f', h3, h4⟩
  · omega
  · rw [h2] at h3
    cases h3
    exact h4 rfl

theorem Z.wpList_append_intg {ops : Array Oper} {rest : List Oper} {o : Oper} {a : Act} {Q : Exit → Act → World → Prop} {w : World} {u : Int} (hgd : o.guard = none) (s x : Operand)
    (ho : o.op = .call { callee := .builtin .append, args := #[s, x], argTypes := #[66, 66] })
    (w0 : World) (v : Value) (xs : List Int) (b c : Nat) (hs : a.eval s = v) (hx : a.eval x = .slice (some ⟨b, 0, none⟩) 1 c) (hc : w.cell? ⟨b, 0, none⟩ = some (.int .i64 u))
    (hown : Z.Own w w0.heap.size v xs) (hu : Upd [] w0 w) (hn : xs.length + 1 ≤ 1048576)
    (h : ∀ v' w', Z.Own w' w0.heap.size v' (xs ++ [u]) → Upd [] w0 w' → Upd v.ownBlock.toList w w' → wpList Try.prog ops Q rest (a.put o.dst v') w') : wpList Try.prog ops Q (o :: rest) a w := by
  refine wpList_plain hgd fun _ hK => ?_
  obtain ⟨i0, hi, hz0, hz1, hz2⟩ := info_parts Z.Try.info3
  obtain ⟨g, cap, w', hr, h2, h3, _, _⟩ := run_append_lies (P := Try.prog) w 66 o.type w0.heap.size 3 i0 (.int .i64 0) 1 8 Try.underlying66 hi hz0 hz1 hz2 rfl (by decide) v xs.length (Z.ints xs) hown
    ⟨b, 0, none⟩ 1 c [.int .i64 u] rfl (fun j v hj => by match j, hj with | 0, hj => simp at hj; subst hj; rw [Z.add_flat]; exact hc) (by intro u hu; simp at hu; subst hu; rfl) (by omega) (by unfold maxLen; omega) (by omega) hu.size _ rfl
  have h5 := Z.own_grown hown h3 hu (Nat.le_refl _)
  have h6 : Upd v.ownBlock.toList w w' := (Upd.refl _ w).grown h3 (fun k hk => .inl (by simp [hk]))
  unfold Oper.wp execOp
  simp only [ho, resolve, invoke, builtin, Sem.run_bind, Sem.run_pure, Result.andThen_ok, List.map_toArray, List.map_cons, List.map_nil, hs, hx, hr]
  refine hK _ _ (h _ w' ?_ h5 h6)
  unfold Z.Own
  rw [Z.ints_append, List.length_append]
  exact h2

/-- what a row tells -/
abbrev RowT := Int × List Int
/-- The rows lie there, each with its own list. -/
def RowsOwn (w : World) (B : Nat) : List Rw → List RowT → Prop
  | [], [] => True
  | r :: rs, q :: qs => r.y = q.1 ∧ Z.Own w B (.slice r.p r.n r.c) q.2 ∧ RowsOwn w B rs qs
  | _, _ => False
theorem RowsOwn.len {w : World} {B : Nat} : ∀ {rs qs}, RowsOwn w B rs qs → rs.length = qs.length
  | [], [], _ => rfl
  | _ :: _, _ :: _, h => by simp only [List.length_cons, RowsOwn.len h.2.2]
theorem RowsOwn.map {w w' : World} {B B' : Nat} (f : ∀ v x, Z.Own w B v x → Z.Own w' B' v x) : ∀ {rs qs}, RowsOwn w B rs qs → RowsOwn w' B' rs qs
  | [], [], _ => trivial
  | _ :: _, _ :: _, h => ⟨h.1, f _ _ h.2.1, RowsOwn.map f h.2.2⟩
theorem RowsOwn.append {w : World} {B : Nat} {r : Rw} {q : RowT} (hy : r.y = q.1) (hz : Z.Own w B (.slice r.p r.n r.c) q.2) : ∀ {rs qs}, RowsOwn w B rs qs → RowsOwn w B (rs ++ [r]) (qs ++ [q])
  | [], [], _ => ⟨hy, hz, trivial⟩
  | _ :: _, _ :: _, h => ⟨h.1, h.2.1, RowsOwn.append hy hz h.2.2⟩
theorem RowsOwn.at {w : World} {B : Nat} : ∀ {rs : List Rw} {qs : List RowT}, RowsOwn w B rs qs → ∀ {i : Nat} {r : Rw}, rs[i]? = some r → ∃ q, qs[i]? = some q ∧ r.y = q.1 ∧ Z.Own w B (.slice r.p r.n r.c) q.2
  | [], [], _, i, r, h => by simp at h
  | a :: rs, b :: qs, h, 0, r, hr => by simp at hr; subst hr; exact ⟨b, rfl, h.1, h.2.1⟩
  | a :: rs, b :: qs, h, i + 1, r, hr => by
    rw [List.getElem?_cons_succ] at hr ⊢
    exact RowsOwn.at h.2.2 hr

/-- A set lies there. -/
structure SetAt (w : World) (s B : Nat) (cs : List Pt) (qs : List RowT) : Prop where
  ge : B ≤ s
  ex : ∃ cv v rv, IsRow w s 61 [cv, v] ∧ Own 24 w B cv cs ∧ Own 68 w B v rv ∧ RowsOwn w B rv qs
theorem SetAt.upd {w w' : World} {s B : Nat} {cs qs} (h : SetAt w s B cs qs) (u : Upd [] w w') : SetAt w' s B cs qs := by
  obtain ⟨h0, cv, v, rv, h1, h2, h3, h4⟩ := h
  exact ⟨h0, cv, v, rv, h1.upd u (by simp), h2.kept u (by simp), h3.kept u (by simp), h4.map fun _ _ z => z.kept u (by simp)⟩
theorem SetAt.mono {w : World} {s B B' : Nat} {cs qs} (h : SetAt w s B cs qs) (hB : B' ≤ B) : SetAt w s B' cs qs := by
  obtain ⟨h0, cv, v, rv, h1, h2, h3, h4⟩ := h
  exact ⟨by omega, cv, v, rv, h1, h2.mono hB, h3.mono hB, h4.map fun _ _ z => z.mono hB⟩

end Go.Proofs.Ytpoogkgekeocbaa
