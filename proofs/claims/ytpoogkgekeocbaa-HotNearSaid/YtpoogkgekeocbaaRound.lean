/- A region that draws its order, within a round: by the same walk as elsewhere. Over any program, at the wide fence. -/
import Derived.Test.YtpoogkgekeocbaaRange
import Derived.Deep.QuietTactic
import Derived.BigQuiet
import Derived.Deep.RegionHeld3
namespace Go.Proofs.Ytpoogkgekeocbaa
open Go.RowKit

theorem rowsIn_of_rows {n : Nat} {P : Program} {row : String} {args : Array Value} {w : World} {R : Value → World → Prop} (h : Rows P row args w R) : RowsIn Fence.wide n P row args w R :=
  fun c cs _ => let ⟨v, w', r, s⟩ := h c cs; ⟨v, w', r, stepsIn_wide.2 s⟩

def calmOp (o : Oper) : Bool := match o.op with | .defer _ => false | _ => true

theorem calmOp_spec {o : Oper} (h : calmOp o = true) : ∀ c, o.op ≠ .defer c := by
  intro c hc
  unfold calmOp at h
  rw [hc] at h
  cases h

theorem opsIn_of_ops {P : Program} {ops : Array Oper} {Q : Exit → Act → World → Prop} (hQ : ¬ LetsOut Q) (r n : Nat) (hcalm : ∀ (i : Nat) (o : Oper), ops[i]? = some o → calmOp o = true) :
    ∀ (l : List Nat) (a : Act) (w : World), wpOps P ops Q l a w → wpOpsIn (Fence.wide.inRound r) n P ops Q l a w
  | [], _, _, h => h
  | i :: rest, a, w, h => by
    simp only [wpOps] at h
    simp only [wpOpsIn]
    cases ho : ops[i]? with
    | none =>
      simp only [ho] at h ⊢
      exact opsIn_of_ops hQ r n hcalm rest a w h
    | some o =>
      simp only [ho] at h ⊢
      by_cases hw : Region.wanted o (yielded ops a.tmps) = true
      · rw [if_pos hw] at h ⊢
        rcases h with h | ⟨_, h⟩
        · refine ⟨fun _ _ => trivial, ?_⟩
          rw [Oper.semAt_eq _ _ _ (calmOp_spec (hcalm i o ho))]
          unfold Oper.wp at h
          cases hres : (execOp a.eval o).run P w with
          | halt x w' =>
            rw [hres] at h
            cases x <;> first | exact h | exact (h : False).elim
          | ok x w' =>
            rw [hres] at h
            cases x with
            | value v => exact opsIn_of_ops hQ r n hcalm rest _ _ h
            | skip => exact opsIn_of_ops hQ r n hcalm rest _ _ h
            | defer d => exact opsIn_of_ops hQ r n hcalm rest _ _ h
            | enter f args =>
              refine ⟨fun hd => by simp [Fence.wide, Fence.inRound] at hd, ?_⟩
              refine CallsIn.inRound r (callsIn_wide.2 ?_)
              refine Calls.mono h fun e w'' he => ?_
              cases e with
              | returned v => exact opsIn_of_ops hQ r n hcalm rest _ _ he
              | panicked chain => exact he
              | outgrown => exact he
            | row row args =>
              refine ⟨fun hd => by simp [Fence.wide, Fence.inRound] at hd, ?_⟩
              exact rowsIn_of_rows (Rows.mono h fun v w'' he => opsIn_of_ops hQ r n hcalm rest _ _ he)
            | _ => exact (h : False).elim
        · exact absurd h hQ
      · rw [if_neg hw] at h ⊢
        exact ⟨fun _ _ => trivial, opsIn_of_ops hQ r n hcalm rest _ _ h⟩

theorem calm_all {l : List Oper} (h : l.all calmOp = true) : ∀ (i : Nat) (o : Oper), l.toArray[i]? = some o → calmOp o = true := by
  intro i o ho
  have hm : o ∈ l := by
    have : l[i]? = some o := by simpa using ho
    exact List.mem_of_getElem? this
  exact List.all_eq_true.1 h o hm

theorem round_any {P : Program} {Q : Exit → Act → World → Prop} {id r n : Nat} {a : Act} {w : World} {l : List Oper} (hQ : ¬ LetsOut Q) (hm : P.follows .mixedOrders = true) (hc : l.all calmOp = true)
    (h : wpAny P .any l.toArray Q l.toArray.size (Array.replicate l.toArray.size false) a { w with drawn := w.drawn + 1 }) : (Code.region id l.toArray true).wpIn (Fence.wide.inRound r) n P Q a w :=
  wpIn_region_draw fun t => by
    simp only [Region.schedule, hm, Bool.true_or, if_true]
    exact opsIn_of_ops hQ r n (calm_all hc) _ _ _ (wpAny_sound l.toArray.size t _ a _ h)

/-- Reads and quiet calls, in whatever order. -/
theorem round_quiet {P : Program} {Q : Exit → Act → World → Prop} {id r n : Nat} {a : Act} {w : World} {l : List Oper} (hQ : ¬ LetsOut Q) (hm : P.follows .mixedOrders = true) (hc : l.all calmOp = true) (hB : Region.lexB .any l.toArray = true)
    (h : wpQuiet P l.toArray (fun w' => ∃ n, w' = w.drewN n) (fun a' => ∀ w', (∃ n, w' = w.drewN n) → Q .normal a' w') l a) : (Code.region id l.toArray true).wpIn (Fence.wide.inRound r) n P Q a w := by
  refine round_any hQ hm hc ?_
  simp only [Region.lexB, Bool.and_eq_true] at hB
  refine wpAny_of_quiet (C := fun w' => ∃ n, w' = w.drewN n) (Q := fun a' => ∀ w', (∃ n, w' = w.drewN n) → Q .normal a' w') (fun _ w' hw' h => h w' hw') _ _ _ _ ⟨1, rfl⟩ ?_
  have := wpAnyQ_lex (C := fun w' => ∃ n, w' = w.drewN n) (md := .any) hB.1 l 0 (Array.replicate l.toArray.size false) a (by simp) (by simpa using hB.2) h
  simpa using this

/-- Loads beside calls that make memory: what is held of every world. -/
theorem round_held {P : Program} {Q : Exit → Act → World → Prop} {id r n : Nat} {S : World → Prop} {a : Act} {w : World} {l : List Oper} (hQ : ¬ LetsOut Q) (hm : P.follows .mixedOrders = true) (hc : l.all calmOp = true) (hS : S w.drew)
    (h : S w.drew → wpAnyH P .any l.toArray Q S l.toArray.size (Array.replicate l.toArray.size false) a w.drew) : (Code.region id l.toArray true).wpIn (Fence.wide.inRound r) n P Q a w :=
  round_any hQ hm hc (wpAny_of_held _ _ _ _ (h hS))

end Go.Proofs.Ytpoogkgekeocbaa
