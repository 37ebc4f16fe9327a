/- Are two points the same? -/
import Derived.Test.YtpoogkgekeocbaaUMath
namespace Go.Proofs.Ytpoogkgekeocbaa
open Go.RowKit

def eqP (a b c d : Int) : Bool := a == c && b == d
theorem eqP_iff {a b c d : Int} : eqP a b c d = true ↔ (a, b) = (c, d) := by unfold eqP; simp
theorem eqP_refl (a b : Int) : eqP a b a b = true := by unfold eqP; simp
theorem eqP_ne {a b c d : Int} (h : ¬ (a, b) = (c, d)) : eqP a b c d = false := by
  cases e : eqP a b c d with
  | false => rfl
  | true => exact absurd (eqP_iff.1 e) h

theorem run_eq34 (d : Nat) (a b x y : Int) (w : World) : (Op.equalIn (d + 2) 34 (.agg #[.int .i64 a, .int .i64 b]) (.agg #[.int .i64 x, .int .i64 y])).run Try.prog w = .ok (eqP a b x y) w := by
  by_cases h1 : a = x
  · by_cases h2 : b = y
    · subst h1 h2
      rw [eqP_refl]
      simp [go_sem]
    · have e1 : eqP a b x y = false := eqP_ne (fun e => h2 (Prod.mk.inj e).2)
      have e2 : (b == y) = false := by rw [beq_eq_false_iff_ne]; exact h2
      rw [e1]
      subst h1
      simp [go_sem, h2]
  · have e1 : eqP a b x y = false := eqP_ne (fun e => h1 (Prod.mk.inj e).1)
    have e2 : (a == x) = false := by rw [beq_eq_false_iff_ne]; exact h1
    rw [e1]
    simp [go_sem, h1]
theorem run_eq24 (d : Nat) (a b x y : Int) (w : World) : (Op.equalIn (d + 2) 24 (.agg #[.int .i64 a, .int .i64 b]) (.agg #[.int .i64 x, .int .i64 y])).run Try.prog w = .ok (eqP a b x y) w := by
  by_cases h1 : a = x
  · by_cases h2 : b = y
    · subst h1 h2
      rw [eqP_refl]
      simp [go_sem]
    · have e1 : eqP a b x y = false := eqP_ne (fun e => h2 (Prod.mk.inj e).2)
      have e2 : (b == y) = false := by rw [beq_eq_false_iff_ne]; exact h2
      rw [e1]
      subst h1
      simp [go_sem, h2]
  · have e1 : eqP a b x y = false := eqP_ne (fun e => h1 (Prod.mk.inj e).1)
    have e2 : (a == x) = false := by rw [beq_eq_false_iff_ne]; exact h1
    rw [e1]
    simp [go_sem, h1]

end Go.Proofs.Ytpoogkgekeocbaa
