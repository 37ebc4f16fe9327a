/- A range over a function, its body told what it is handed: one law for the loop, one shape for the iterator's contract. Over any program, at the wide fence. -/
import Derived.RangeFuncNested
import Derived.RangeFuncBound
import Derived.RangeFuncCalls
import Derived.RangeFuncLeaves
import Derived.OwnWalkIn
import Derived.TacticsInMore
import Derived.LoopNIn
import Derived.LoopIn
import Derived.Test.YtpoogkgekeocbaaLib
namespace Go.Proofs.Ytpoogkgekeocbaa
open Go.RowKit

/-- What lay below B, and all rows of cells, lie as they lay, but for T. -/
structure UpdF (T : List Nat) (B : Nat) (W W' : World) : Prop where
  os : W'.os = W.os
  tape : W'.tape = W.tape
  output : W'.output = W.output
  size : W.heap.size ≤ W'.heap.size
  block : ∀ k, k < W.heap.size → k ∉ T → (k < B ∨ ∃ c e f, W.heap[k]? = some (.cells c e f)) → W'.heap[k]? = W.heap[k]?

theorem Upd.toF {S : List Nat} {W W' : World} (h : Upd S W W') (B : Nat) : UpdF S B W W' :=
  ⟨h.os, h.tape, h.output, h.size, fun k hk hn _ => h.block k hk hn⟩

theorem UpdF.mono {T T' : List Nat} {B : Nat} {W W' : World} (h : UpdF T B W W') (hT : ∀ k, k ∈ T → k ∈ T') : UpdF T' B W W' :=
  ⟨h.os, h.tape, h.output, h.size, fun k hk hn hb => h.block k hk (fun e => hn (hT k e)) hb⟩

theorem UpdF.row {T : List Nat} {B : Nat} {W W' : World} (h : UpdF T B W W') {b : Nat} {e : TypeId} {xs : List Value} (hr : IsRow W b e xs) (hn : b ∉ T) : IsRow W' b e xs := by
  refine (h.block b hr.lt hn (.inr ⟨_, _, _, hr⟩)).trans hr

/-- What an earlier world held is still kept. -/
theorem UpdF.upd {T S : List Nat} {B : Nat} {w W W' : World} (h : UpdF T B W W') (u : Upd S w W) (hB : w.heap.size ≤ B) (hT : ∀ k, k ∈ T → k < w.heap.size → k ∈ S) : Upd S w W' :=
  ⟨h.os.trans u.os, h.tape.trans u.tape, h.output.trans u.output, Nat.le_trans u.size h.size,
    fun k hk hn => (h.block k (Nat.lt_of_lt_of_le hk u.size) (fun e => hn (hT k e hk)) (.inl (by omega))).trans (u.block k hk hn)⟩

theorem updF_putObj {B : Nat} (W : World) (l : Nat) (o o' : Obj) (hB : B ≤ l) (h : W.heap[l]? = some o) (ho : o.isCells = false) : UpdF [] B W (W.putObj l o') := by
  refine ⟨rfl, rfl, rfl, by simp, fun k hk _ hb => World.putObj_heap_other (fun e => ?_)⟩
  subst e
  rcases hb with hb | ⟨c, e, f, hc⟩
  · omega
  · rw [h] at hc
    cases hc
    cases ho

/-- What lay below B lies as it lay, but for X. -/
structure Low (X : List Nat) (B : Nat) (W W' : World) : Prop where
  os : W'.os = W.os
  tape : W'.tape = W.tape
  output : W'.output = W.output
  size : W.heap.size ≤ W'.heap.size
  low : ∀ k, k < W.heap.size → k < B → k ∉ X → W'.heap[k]? = W.heap[k]?

/-- So it does; and whatever lies above B and is no row of cells. -/
structure Lows (X : List Nat) (B : Nat) (W W' : World) : Prop where
  toLow : Low X B W W'
  rest : ∀ k, B ≤ k → k < W.heap.size → (∀ c e f, W.heap[k]? ≠ some (.cells c e f)) → W'.heap[k]? = W.heap[k]?

theorem UpdF.low {X : List Nat} {B : Nat} {W W' : World} (h : UpdF X B W W') : Low X B W W' :=
  ⟨h.os, h.tape, h.output, h.size, fun k hk hb hn => h.block k hk hn (.inl hb)⟩

theorem Low.trans {X : List Nat} {B : Nat} {a b c : World} (h : Low X B a b) (k : Low X B b c) : Low X B a c :=
  ⟨k.os.trans h.os, k.tape.trans h.tape, k.output.trans h.output, Nat.le_trans h.size k.size, fun i hi hb hn => (k.low i (Nat.lt_of_lt_of_le hi h.size) hb hn).trans (h.low i hi hb hn)⟩

theorem Upd.lows {S X : List Nat} {B : Nat} {W W' : World} (h : Upd S W W') (hS : ∀ k, k ∈ S → k < W.heap.size → (k ∈ X ∧ k < B) ∨ (B ≤ k ∧ ∃ c e f, W.heap[k]? = some (.cells c e f))) : Lows X B W W' := by
  refine ⟨⟨h.os, h.tape, h.output, h.size, fun k hk hb hn => h.block k hk fun e => ?_⟩, fun k hb hk hn => h.block k hk fun e => ?_⟩
  · rcases hS k e hk with h1 | h1
    · exact hn h1.1
    · omega
  · rcases hS k e hk with h1 | ⟨_, c, e', f, h1⟩
    · omega
    · exact hn c e' f h1

theorem Low.row {X : List Nat} {B : Nat} {W W' : World} (h : Low X B W W') {b : Nat} {e : TypeId} {xs : List Value} (hr : IsRow W b e xs) (hb : b < B) (hn : b ∉ X) : IsRow W' b e xs :=
  (h.low b hr.lt hb hn).trans hr

/-- How the body of a round may be left. -/
def bodyEnd {α : Type} (X : List Nat) (B : Nat) (I : List α → World → Prop) (Ix : Code → List α → World → Prop) (xs : List α) (W : World) : Exit → Act → World → Prop
  | .normal, _, W' => Lows X B W W' ∧ I xs W'
  | .ret, _, W' => Lows X B W W' ∧ Ix .ret xs W'
  | .exit id, _, W' => Lows X B W W' ∧ Ix (.exit id) xs W'
  | .goto t, _, W' => Lows X B W W' ∧ Ix (.goto t) xs W'
  | .panic _, _, _ => False
  | .outgrown, _, _ => False

/-- An iterator's contract: it writes to T alone (and to what it makes); in a round the body keeps what lay below, but X; Adm: what is known of the thing that comes next. -/
def Iter {α : Type} (n : Nat) (P : Program) (g : Nat) (lb : Array Value) (encs : α → Array Value) (T X : List Nat) (Adm : List α → α → World → Prop) (S Sp : List α → Prop) (w : World) : Prop :=
  ∀ (l B : Nat) (J Jx : List α → World → Prop) (W : World), Upd [] w W → w.heap.size ≤ B →
    (∀ pre W1 W2, J pre W1 → Upd T W1 W2 → J pre W2) → (∀ pre W1 W2, Jx pre W1 → Upd T W1 W2 → Jx pre W2) →
    (∀ pre x W1, J pre W1 → Adm pre x W1 → YieldAt Fence.wide (n - 1) P l (encs x) W1 fun e W' =>
      (e = .returned (.bool true) ∧ J (pre ++ [x]) W' ∧ Low X w.heap.size W1 W') ∨ (e = .returned (.bool false) ∧ Jx (pre ++ [x]) W')) →
    J [] W →
    CallsIn Fence.wide n P g (#[.func (.yield l) #[] #[]] ++ lb) W fun e W' => (∃ v, e = .returned v) ∧ ((∃ xs, S xs ∧ J xs W') ∨ (∃ pre, Sp pre ∧ Jx pre W'))

theorem UpdF.trans {T : List Nat} {B : Nat} {a b c : World} (h : UpdF T B a b) (k : UpdF T B b c) : UpdF T B a c := by
  refine ⟨k.os.trans h.os, k.tape.trans h.tape, k.output.trans h.output, Nat.le_trans h.size k.size, fun i hi hn hb => ?_⟩
  have h1 := h.block i hi hn hb
  refine (k.block i (Nat.lt_of_lt_of_le hi h.size) hn ?_).trans h1
  rcases hb with hb | ⟨c', e, f, hc⟩
  · exact .inl hb
  · exact .inr ⟨c', e, f, h1.trans hc⟩

/-- THE LOOP. -/
theorem wp_range {α : Type} {n : Nat} {P : Program} {g : Operand} {ps : Array Tmp} {assign body : Code} {Q : Exit → Act → World → Prop} {a : Act} {w : World}
    {gf : Nat} {lb : Array Value} (hg : a.eval g = .func (.func gf) #[] lb) (eg : ∀ args w, (callFunc gf args).run P w = .ok (.enter gf args) w)
    {encs : α → Array Value} {T X : List Nat} {Adm : List α → α → World → Prop} {S Sp : List α → Prop} (hseq : Iter (n - 1) P gf lb encs T X Adm S Sp w)
    (hps : ∀ x, (encs x).size = ps.size) (hT : ∀ k, k ∈ T → k < w.heap.size)
    (I : List α → World → Prop) (Ix : Code → List α → World → Prop)
    (hI : ∀ pre W W', I pre W → UpdF T w.heap.size W W' → I pre W') (hIx : ∀ c pre W W', Ix c pre W → UpdF T w.heap.size W W' → Ix c pre W')
    (hAdm : ∀ pre x W W', Adm pre x W → UpdF [] w.heap.size W W' → Adm pre x W')
    (h0 : I [] w) (a₁ : α → Act)
    (hassign : ∀ (l : Nat) (x : α) (W : World) (K : Act → World → Prop), K (a₁ x) W →
      assign.wpIn (Fence.wide.inRound l) (n - 1 - 1) P (Exit.then K (fun _ _ _ => False)) { tmps := (ps.zip (encs x)).foldl (fun t (p, v) => t.setIfInBounds p v) a.tmps, defers := [] } W)
    (hbody : ∀ (l : Nat) (pre : List α) (x : α) (W : World), I pre W → Adm pre x W → body.wpIn (Fence.wide.inRound l) (n - 1 - 1) P (bodyEnd X w.heap.size I Ix (pre ++ [x]) W) (a₁ x) W)
    (hdone : ∀ (D : Nat) (xs : List α) (W : World), w.heap.size ≤ D → S xs → I xs W → W.heap[D]? = some (.deferred (some [])) → Q .normal { a with defers := { target := .collected D, args := #[] } :: a.defers } W)
    (hstop : ∀ (D : Nat) (c : Code) (pre : List α) (W : World), w.heap.size ≤ D → Sp pre → Ix c pre W → W.heap[D]? = some (.deferred (some [])) → c.wpIn Fence.wide n P Q { a with defers := { target := .collected D, args := #[] } :: a.defers } W) :
    (Code.rangeFunc g ps assign body).wpIn Fence.wide n P Q a w := by
  refine wpIn_rangeFunc ?_
  intro fn hfn
  obtain ⟨rec, hrec⟩ : ∃ rec : LoopState → Option Code → Loop, rec = fun st pe => { state := st, pending := pe, fn, tmps := a.tmps, params := ps, assign, body, defers := w.heap.size } := ⟨_, rfl⟩
  obtain ⟨W1, hW1⟩ : ∃ W1, (w.alloc (.deferred (some []))).alloc (.loop (rec .ready none)) = W1 := ⟨_, rfl⟩
  have hL1 : W1.heap[w.heap.size + 1]? = some (.loop (rec .ready none)) := by
    rw [← hW1]; have := World.alloc_heap_new (w.alloc (.deferred (some []))) (.loop (rec .ready none)); rwa [World.size_alloc] at this
  have hK1 : W1.heap[w.heap.size]? = some (.deferred (some [])) := by
    rw [← hW1]; exact (Below.heap_alloc _ _ _ (by simp)).trans (World.alloc_heap_new w _)
  have hu1 : Upd [] w W1 := by rw [← hW1]; exact ((Upd.refl [] w).alloc _).alloc _
  have hI1 : I [] W1 := hI [] w W1 h0 ((hu1.toF _).mono (by simp))
  refine ⟨w.heap.size + 1, [{ target := .collected w.heap.size, args := #[] }], W1, { target := .fn (.func gf) lb, args := #[.func (.yield (w.heap.size + 1)) #[] #[]] }, W1, gf,
    #[.func (.yield (w.heap.size + 1)) #[] #[]] ++ lb, W1, ?_, ?_, ?_, ?_, fun h => by simp [Fence.wide] at h, ?_⟩
  · rw [← hW1, hrec]; exact run_enterLoop_outer _ _ _ _ _
  · simp only [resolve, hg]
    simp [go_sem]
  · intro f' _; trivial
  · simp [invoke, go_sem, eg]
  · have keepL : ∀ {W W' : World} {o : Obj}, Upd T W W' → W.heap[w.heap.size + 1]? = some o → W'.heap[w.heap.size + 1]? = some o := fun hu h =>
      (hu.block _ (Array.getElem?_eq_some_iff.1 h).1 (fun e => by have := hT _ e; omega)).trans h
    have keepD : ∀ {W W' : World} {o : Obj}, Upd T W W' → W.heap[w.heap.size]? = some o → W'.heap[w.heap.size]? = some o := fun hu h =>
      (hu.block _ (Array.getElem?_eq_some_iff.1 h).1 (fun e => by have := hT _ e; omega)).trans h
    refine (hseq (w.heap.size + 1) w.heap.size
      (fun pre W => I pre W ∧ W.heap[w.heap.size + 1]? = some (.loop (rec .ready none)) ∧ W.heap[w.heap.size]? = some (.deferred (some [])))
      (fun pre W => ∃ c, Ix c pre W ∧ W.heap[w.heap.size + 1]? = some (.loop (rec .done (some c))) ∧ W.heap[w.heap.size]? = some (.deferred (some [])))
      W1 hu1 (Nat.le_refl _)
      (fun pre A B' hs hu => ⟨hI pre A B' hs.1 (hu.toF _), keepL hu hs.2.1, keepD hu hs.2.2⟩)
      (fun pre A B' hs hu => by
        obtain ⟨c, hc, hl, hk⟩ := hs
        exact ⟨c, hIx c pre A B' hc (hu.toF _), keepL hu hl, keepD hu hk⟩)
      ?_ ⟨hI1, hL1, hK1⟩).mono ?_
    · rintro pre x W ⟨hi, hl, hk⟩ hadm
      have hlt : w.heap.size + 1 < W.heap.size := (Array.getElem?_eq_some_iff.1 hl).1
      have hy := run_yield (P := P) (args := encs x) hl (by rw [hrec]; exact hps x)
      rw [hrec] at hy
      refine ⟨fn, _, assign, body, hy, roundIn_of_wpIn hfn (hassign _ x W _ ⟨_, run_beginRound hl (by rw [hrec]), ?_⟩)⟩
      have hl2 : (W.putObj (w.heap.size + 1) (.loop { rec .ready none with state := .busy })).heap[w.heap.size + 1]? = some (.loop { rec .ready none with state := .busy }) := World.putObj_heap_same hlt
      have hk2 : (W.putObj (w.heap.size + 1) (.loop { rec .ready none with state := .busy })).heap[w.heap.size]? = some (.deferred (some [])) := (World.putObj_heap_other (by omega)).trans hk
      have hf2 : UpdF [] w.heap.size W (W.putObj (w.heap.size + 1) (.loop { rec .ready none with state := .busy })) := updF_putObj W _ _ _ (by omega) hl rfl
      refine wpIn_mono (hbody _ pre x _ (hI _ _ _ hi (hf2.mono (by simp))) (hAdm _ _ _ _ hadm hf2)) ?_
      have fin : ∀ (jump : Option Code) (W3 : World), Lows X w.heap.size (W.putObj (w.heap.size + 1) (.loop { rec .ready none with state := .busy })) W3 →
          (Instr.endRound (w.heap.size + 1) jump).run P W3 = .ok (.bool jump.isNone) (W3.putObj (w.heap.size + 1) (.loop (rec (if jump.isNone then .ready else .done) jump))) ∧
          W3.heap[w.heap.size + 1]? = some (.loop { rec .ready none with state := .busy }) ∧
          (W3.putObj (w.heap.size + 1) (.loop (rec (if jump.isNone then .ready else .done) jump))).heap[w.heap.size + 1]? = some (.loop (rec (if jump.isNone then .ready else .done) jump)) ∧
          (W3.putObj (w.heap.size + 1) (.loop (rec (if jump.isNone then .ready else .done) jump))).heap[w.heap.size]? = some (.deferred (some [])) := fun jump W3 hk3 => by
        have hl3 : W3.heap[w.heap.size + 1]? = some (.loop { rec .ready none with state := .busy }) := (hk3.rest _ (by omega) (Array.getElem?_eq_some_iff.1 hl2).1 (fun c e f hc => by rw [hl2] at hc; cases hc)).trans hl2
        have hd3 : W3.heap[w.heap.size]? = some (.deferred (some [])) := (hk3.rest _ (Nat.le_refl _) (Array.getElem?_eq_some_iff.1 hk2).1 (fun c e f hc => by rw [hk2] at hc; cases hc)).trans hk2
        have := run_endRound (P := P) jump hl3
        rw [hrec] at this ⊢
        exact ⟨this, by rw [hrec] at hl3; exact hl3, World.putObj_heap_same (Array.getElem?_eq_some_iff.1 hl3).1, (World.putObj_heap_other (by omega)).trans hd3⟩
      rintro e a3 W3 hp
      cases e with
      | normal =>
        obtain ⟨hk3, hi3⟩ := hp
        obtain ⟨hr, hl3, hl4, hk4⟩ := fin none W3 hk3
        have hf4 := updF_putObj (B := w.heap.size) W3 _ _ (.loop (rec .ready none)) (by omega) hl3 rfl
        exact ⟨_, _, hr, .inl ⟨rfl, ⟨hI _ _ _ hi3 (hf4.mono (by simp)), hl4, hk4⟩, (((hf2.mono (by simp)).low).trans hk3.toLow).trans ((hf4.mono (by simp)).low)⟩⟩
      | ret =>
        obtain ⟨hk3, hi3⟩ := hp
        obtain ⟨hr, hl3, hl4, hk4⟩ := fin (some .ret) W3 hk3
        exact ⟨_, _, hr, .inr ⟨rfl, .ret, hIx _ _ _ _ hi3 ((updF_putObj W3 _ _ _ (by omega) hl3 rfl).mono (by simp)), hl4, hk4⟩⟩
      | exit id =>
        obtain ⟨hk3, hi3⟩ := hp
        obtain ⟨hr, hl3, hl4, hk4⟩ := fin (some (.exit id)) W3 hk3
        exact ⟨_, _, hr, .inr ⟨rfl, .exit id, hIx _ _ _ _ hi3 ((updF_putObj W3 _ _ _ (by omega) hl3 rfl).mono (by simp)), hl4, hk4⟩⟩
      | goto t =>
        obtain ⟨hk3, hi3⟩ := hp
        obtain ⟨hr, hl3, hl4, hk4⟩ := fin (some (.goto t)) W3 hk3
        exact ⟨_, _, hr, .inr ⟨rfl, .goto t, hIx _ _ _ _ hi3 ((updF_putObj W3 _ _ _ (by omega) hl3 rfl).mono (by simp)), hl4, hk4⟩⟩
      | panic ch => exact hp.elim
      | outgrown => exact hp.elim
    · rintro e W2 ⟨⟨v, rfl⟩, (⟨xs, hS, hi, hl, hk⟩ | ⟨pre, hSp, c, hi, hl, hk⟩)⟩
      · exact ⟨none, _, by have := run_endLoop (P := P) hl (by rw [hrec]; simp); rw [hrec] at this; exact this,
          hdone _ xs _ (Nat.le_refl _) hS (hI _ _ _ hi ((updF_putObj W2 _ _ _ (by omega) hl rfl).mono (by simp))) ((World.putObj_heap_other (by omega)).trans hk)⟩
      · exact ⟨some c, _, by have := run_endLoop (P := P) hl (by rw [hrec]; simp); rw [hrec] at this; exact this,
          hstop _ c pre _ (Nat.le_refl _) hSp (hIx c _ _ _ hi ((updF_putObj W2 _ _ _ (by omega) hl rfl).mono (by simp))) ((World.putObj_heap_other (by omega)).trans hk)⟩

/-- The same, what the assignment leaves told by a function of the frame. -/
theorem wp_range' {α : Type} {n : Nat} {P : Program} {g : Operand} {ps : Array Tmp} {assign body : Code} {Q : Exit → Act → World → Prop} {a : Act} {w : World}
    {gf : Nat} {lb : Array Value} (hg : a.eval g = .func (.func gf) #[] lb) (eg : ∀ args w, (callFunc gf args).run P w = .ok (.enter gf args) w)
    {encs : α → Array Value} {T X : List Nat} {Adm : List α → α → World → Prop} {S Sp : List α → Prop} (hseq : Iter (n - 1) P gf lb encs T X Adm S Sp w)
    (hps : ∀ x, (encs x).size = ps.size) (hT : ∀ k, k ∈ T → k < w.heap.size)
    (I : List α → World → Prop) (Ix : Code → List α → World → Prop)
    (hI : ∀ pre W W', I pre W → UpdF T w.heap.size W W' → I pre W') (hIx : ∀ c pre W W', Ix c pre W → UpdF T w.heap.size W W' → Ix c pre W')
    (hAdm : ∀ pre x W W', Adm pre x W → UpdF [] w.heap.size W W' → Adm pre x W')
    (h0 : I [] w) (f : Array Value → α → Array Value)
    (hassign : ∀ (l : Nat) (x : α) (W : World) (K : Act → World → Prop), K { tmps := f a.tmps x, defers := [] } W →
      assign.wpIn (Fence.wide.inRound l) (n - 1 - 1) P (Exit.then K (fun _ _ _ => False)) { tmps := (ps.zip (encs x)).foldl (fun t (p, v) => t.setIfInBounds p v) a.tmps, defers := [] } W)
    (hbody : ∀ (l : Nat) (pre : List α) (x : α) (W : World), I pre W → Adm pre x W → body.wpIn (Fence.wide.inRound l) (n - 1 - 1) P (bodyEnd X w.heap.size I Ix (pre ++ [x]) W) { tmps := f a.tmps x, defers := [] } W)
    (hdone : ∀ (D : Nat) (xs : List α) (W : World), w.heap.size ≤ D → S xs → I xs W → W.heap[D]? = some (.deferred (some [])) → Q .normal { a with defers := { target := .collected D, args := #[] } :: a.defers } W)
    (hstop : ∀ (D : Nat) (c : Code) (pre : List α) (W : World), w.heap.size ≤ D → Sp pre → Ix c pre W → W.heap[D]? = some (.deferred (some [])) → c.wpIn Fence.wide n P Q { a with defers := { target := .collected D, args := #[] } :: a.defers } W) :
    (Code.rangeFunc g ps assign body).wpIn Fence.wide n P Q a w :=
  wp_range hg eg hseq hps hT I Ix hI hIx hAdm h0 (fun x => { tmps := f a.tmps x, defers := [] }) hassign hbody hdone hstop

end Go.Proofs.Ytpoogkgekeocbaa
