/- The groups as they are gathered in memory. -/
import Derived.Test.YtlafnjkcogdljaaN
import Derived.Test.YtlafnjkcogdljaaGMath
import Derived.Test.YtlafnjkcogdljaaRange
import Derived.Maps.AppendAt
namespace Go.Proofs.Ytlafnjkcogdljaa
open Go.RowKit

theorem SetsAt.leasts {w s b n x} (h : SetsAt w s b n x) : Leasts x := by
  obtain ⟨_, _, _, _, _, _, g⟩ := h
  refine ⟨g.le, fun i v hv => ?_⟩
  have hi : i < n := by rw [← g.len]; exact (List.getElem?_eq_some_iff.1 hv).1
  have := g.val i hi
  rw [hv] at this
  rw [Option.some.inj this]
  exact (g.least i hi).2

theorem Own.keptF {w w' : World} {B B0 : Nat} {v : Value} {x : List Nat} (h : Own w B v x) {S : List Nat} (u : UpdF S B0 w w') (hS : ∀ k, k ∈ S → k < B) : Own w' B v x := by
  refine ⟨h.1, ?_⟩
  rcases h.2 with h2 | ⟨g, cap, cur, rfl, hb, hg, r⟩
  · exact .inl h2
  · refine .inr ⟨g, cap, cur, rfl, hb, ?_, r⟩
    rw [u.block g (Array.getElem?_eq_some_iff.1 hg).1 (fun e => by have := hS g e; omega) (.inr ⟨_, _, _, hg⟩)]
    exact hg

structure GroupsAt (w : World) (gb BB : Nat) (vs : List Value) (x : List Nat) (k : Nat) : Prop where
  row : IsRow w gb 26 vs
  lt : gb < BB
  len : vs.length = cntX x
  own : ∀ (m : Nat) (v : Value), vs[m]? = some v → Own w BB v (grpTo x k m)
  apart : ∀ (m m' : Nat) (v v' : Value) (z : Nat), m ≠ m' → vs[m]? = some v → vs[m']? = some v' → v.ownBlock = some z → v'.ownBlock ≠ some z

theorem GroupsAt.start {w : World} {gb BB : Nat} {x : List Nat} {vs : List Value} (hr : IsRow w gb 26 vs) (hl : gb < BB) (hlen : vs.length = cntX x) (hv : ∀ (m : Nat) (v : Value), vs[m]? = some v → v = .slice none 0 0) : GroupsAt w gb BB vs x 0 := by
  refine ⟨hr, hl, hlen, fun m v h => ?_, fun m m' v v' z _ h _ hz => ?_⟩
  · rw [hv m v h]; exact Own.nil _ _
  · rw [hv m v h] at hz; simp [Value.ownBlock] at hz

theorem GroupsAt.keptF {w w' : World} {gb BB B0 : Nat} {vs : List Value} {x : List Nat} {k : Nat} (h : GroupsAt w gb BB vs x k) {S : List Nat} (u : UpdF S B0 w w') (hS : ∀ z, z ∈ S → z < gb) : GroupsAt w' gb BB vs x k :=
  ⟨u.row h.row (fun e => by have := hS gb e; omega), h.lt, h.len, fun m v hv => (h.own m v hv).keptF u (fun z hz => by have := hS z hz; have := h.lt; omega), h.apart⟩

theorem GroupsAt.step {wr w1 : World} {gb BB : Nat} {vs : List Value} {x : List Nat} {k m : Nat} {v v' : Value} {o : Obj} (h : GroupsAt wr gb BB vs x k) (hm : num x k = m) (hv : vs[m]? = some v)
    (hown : w1.ownsRow BB 3 1 v' ((grpTo x k m).length + 1) (nums (grpTo x k m) ++ [.int .i64 (k : Int)]))
    (hg : (wr.alloc o).grownBy w1 v.ownBlock) (hat : v'.ownBlock = v.ownBlock ∨ v'.ownBlock = some (wr.heap.size + 1)) :
    GroupsAt (w1.setCell ⟨gb, m, none⟩ v') gb BB (vs.set m v') x (k + 1) := by
  have hml : m < vs.length := (List.getElem?_eq_some_iff.1 hv).1
  have hne : some gb ≠ v.ownBlock := by
    intro e
    have := World.ownsRow.lt (h.own m v hv) gb e.symm
    have := h.lt
    omega
  have hrow1 : IsRow w1 gb 26 vs := by
    refine (hg.block gb ?_ hne).trans (h.row.alloc o)
    exact (h.row.alloc o).lt
  refine ⟨hrow1.setCell_same m v', h.lt, by simp [h.len], fun m' u hu => ?_, ?_⟩
  · rw [grpTo_succ]
    by_cases e : m' = m
    · subst e
      rw [List.getElem?_set_self hml] at hu
      obtain rfl := Option.some.inj hu
      rw [if_pos hm]
      exact ownsRow_setCell_below (Own.snoc hown) h.lt _
    · rw [List.getElem?_set_ne (fun e' => e e'.symm)] at hu
      rw [if_neg (fun e' => e (e'.symm.trans hm)), List.append_nil]
      refine ownsRow_setCell_below ?_ h.lt _
      refine World.ownsRow.kept ((h.own m' u hu).alloc o) hg ?_
      cases hz : v.ownBlock with
      | none =>
        cases hz' : u.ownBlock with
        | none => exact .inl rfl
        | some z => exact .inr (by simp)
      | some z => exact .inr (h.apart m m' v u z (fun e' => e e'.symm) hv hu hz)
  · intro a a' u u' z hne' hu hu' hz hz'
    have hold : ∀ (c : Nat) (t : Value) (z : Nat), vs[c]? = some t → t.ownBlock = some z → z < wr.heap.size + 1 := fun c t z hc hz => by
      have := (World.ownsRow.lt (h.own c t hc) z hz).2
      omega
    by_cases e : a = m
    · subst e
      rw [List.getElem?_set_self hml] at hu
      obtain rfl := Option.some.inj hu
      rw [List.getElem?_set_ne hne'] at hu'
      rcases hat with h1 | h1
      · rw [h1] at hz
        exact h.apart a a' v u' z hne' hv hu' hz hz'
      · rw [h1] at hz
        obtain rfl := Option.some.inj hz
        have := hold a' u' _ hu' hz'
        omega
    · rw [List.getElem?_set_ne (fun e' => e e'.symm)] at hu
      by_cases e2 : a' = m
      · subst e2
        rw [List.getElem?_set_self hml] at hu'
        obtain rfl := Option.some.inj hu'
        rcases hat with h1 | h1
        · rw [h1] at hz'
          exact h.apart a a' u v z hne' hu hv hz hz'
        · rw [h1] at hz'
          obtain rfl := Option.some.inj hz'
          have := hold a u _ hu hz
          omega
      · rw [List.getElem?_set_ne (fun e' => e2 e'.symm)] at hu'
        exact h.apart a a' u u' z hne' hu hu' hz hz'

theorem GroupsAt.row_app {wr w1 : World} {gb BB : Nat} {vs : List Value} {x : List Nat} {k m : Nat} {v : Value} {o : Obj} (h : GroupsAt wr gb BB vs x k) (hv : vs[m]? = some v)
    (hg : (wr.alloc o).grownBy w1 v.ownBlock) : IsRow w1 gb 26 vs := by
  have hne : some gb ≠ v.ownBlock := by
    intro e
    have := World.ownsRow.lt (h.own m v hv) gb e.symm
    have := h.lt
    omega
  exact (hg.block gb (h.row.alloc o).lt hne).trans (h.row.alloc o)

theorem GroupsAt.upd_app {W2 wr w1 : World} {gb BB : Nat} {vs : List Value} {x : List Nat} {k m : Nat} {v : Value} {o : Obj} (h : GroupsAt wr gb BB vs x k) (hv : vs[m]? = some v)
    (hg : (wr.alloc o).grownBy w1 v.ownBlock) (hu : Upd [gb] W2 wr) (hB : W2.heap.size ≤ BB) (u : Value) : Upd [gb] W2 (w1.setCell ⟨gb, m, none⟩ u) :=
  ((hu.alloc o).grown hg (fun z hz => .inr (by have := World.ownsRow.lt (h.own m v hv) z hz; omega))).setCell (p := ⟨gb, m, none⟩) (by simp) _

theorem num_at {x : List Nat} {k : Nat} (hk : k < x.length) : (numbersX x)[k]? = some (num x k) := by
  rw [numbersX_at (List.getElem?_eq_getElem hk)]
  unfold num
  rw [List.getElem?_eq_getElem hk]
  rfl

theorem grpTo_len (x : List Nat) (k m : Nat) : (grpTo x k m).length ≤ k := by
  unfold grpTo
  exact Nat.le_trans (List.length_filter_le _ _) (by simp)

theorem Try.info26 : (Try.prog.info? 26).map (fun i => (i.zero, i.size, i.bytes)) = some (some (.slice none 0 0), 1, 24) := by kernel_rfl

theorem make_rows (n : Nat) (hn : n ≤ 1048576) (w : World) : ∃ c : List Value, c.length = n ∧ (∀ (m : Nat) (v : Value), c[m]? = some v → v = .slice none 0 0) ∧
    (Instr.makeSlice 56 (.int .i64 n) (.int .i64 n)).run Try.prog w = .ok (.slice (some ⟨w.heap.size, 0, none⟩) n n) (w.alloc (.cells c.toArray 26 (0, 0))) := by
  obtain ⟨i0, hi, hz0, hz1, hz2⟩ := info_parts Try.info26
  refine ⟨List.replicate n (.slice none 0 0), by simp, fun m v h => ?_, ?_⟩
  · rw [List.getElem?_replicate] at h
    split at h
    · exact (Option.some.inj h).symm
    · cases h
  · have h := run_make (P := Try.prog) w 56 26 i0 _ Try.underlying56 hi hz0 .i64 .i64 n n (by omega) (by omega) (by rw [hz2]; omega) (by omega)
    have e : madeCells (Value.slice none 0 0).cells (n * 1) = (List.replicate n (Value.slice none 0 0)).toArray := by
      apply Array.ext'
      rw [Nat.mul_one]
      exact toList_madeCells_one _ n
    rw [h, hz1, Int.toNat_natCast, e]

end Go.Proofs.Ytlafnjkcogdljaa
