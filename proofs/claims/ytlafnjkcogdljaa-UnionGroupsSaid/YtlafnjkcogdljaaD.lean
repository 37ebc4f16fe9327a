/- Least, Size, Same of numbers. -/
import Derived.Test.YtlafnjkcogdljaaC
import Derived.Deep.RegionWith
namespace Go.Proofs.Ytlafnjkcogdljaa
open Go.RowKit

set_option maxHeartbeats 400000 in
theorem least_yes (s b n : Nat) (x : List Nat) (a : Nat) (w : World) (h : SetsAt w s b n x) (ha : a < n) :
    Calls Try.prog 16 #[.pointer (some ⟨s, 0, none⟩), .int .i64 a] w fun e w' => e = .returned (.tuple #[.int .i64 (x[a]?.getD 0 : Nat), .int .i64 0]) ∧ SetsAt w' s b n x ∧ Upd [b] w w' := by
  obtain ⟨cs, up, sz, ls, R, h, g⟩ := h
  have ia := inB_nat n a ha
  have HX := Lib.hid (g.getD ha)
  have cl := h.cl
  go_enter Try.func16, Try.ntmps16
  go_wp2_with (go_at_call 23; refine (has_any _ n _ _ _ (by assumption)).mono ?_; rintro e w' ⟨rfl, rfl⟩)
  have ltR := g.forest.Rlt a ha
  have hd := h.drew
  go_region_with (go_at_call 24; refine (root_any s b n _ a _ _ _ sz ls R hd ha).mono ?_; rintro e w1 ⟨rfl, ⟨cs1, up1, h1⟩, u1⟩; have d1 := h1.cl; have d2 := h1.cm ltR)
  all_goals
    go_wp2_with fail
    go_ret2
    exact ⟨by rw [HX.out]; rfl, ⟨cs1, up1, sz, ls, R, h1, g.halve h1.forest⟩, (Upd.refl [b] w).drew.trans u1⟩

set_option maxHeartbeats 400000 in
theorem size_yes (s b n : Nat) (x : List Nat) (a : Nat) (w : World) (h : SetsAt w s b n x) (ha : a < n) :
    Calls Try.prog 21 #[.pointer (some ⟨s, 0, none⟩), .int .i64 a] w fun e w' => e = .returned (.int .i64 (x.count (x[a]?.getD 0) : Nat)) ∧ SetsAt w' s b n x ∧ Upd [b] w w' := by
  obtain ⟨cs, up, sz, ls, R, h, g⟩ := h
  have ia := inB_nat n a ha
  have HX : Hid (sz (R a) = x.count (x[a]?.getD 0)) := by rw [g.getD ha]; exact g.cnt a ha
  have cl := h.cl
  go_enter Try.func21, Try.ntmps21
  go_wp2_with (go_at_call 23; refine (has_any _ n _ _ _ (by assumption)).mono ?_; rintro e w' ⟨rfl, rfl⟩)
  have ltR := g.forest.Rlt a ha
  have hd := h.drew
  go_region_with (go_at_call 24; refine (root_any s b n _ a _ _ _ sz ls R hd ha).mono ?_; rintro e w1 ⟨rfl, ⟨cs1, up1, h1⟩, u1⟩; have d1 := h1.cl; have d2 := h1.cz ltR)
  all_goals
    go_wp2_with fail
    go_ret
    exact ⟨by rw [HX.out]; rfl, ⟨cs1, up1, sz, ls, R, h1, g.halve h1.forest⟩, (Upd.refl [b] w).drew.trans u1⟩

def eqB (x : List Nat) (a c : Nat) : Bool := decide (x[a]?.getD 0 = x[c]?.getD 0)

set_option maxHeartbeats 400000 in
theorem same_yes (s b n : Nat) (x : List Nat) (a c : Nat) (w : World) (h : SetsAt w s b n x) (ha : a < n) (hc : c < n) :
    Calls Try.prog 12 #[.pointer (some ⟨s, 0, none⟩), .int .i64 a, .int .i64 c] w fun e w' => e = .returned (.bool (eqB x a c)) ∧ SetsAt w' s b n x ∧ Upd [b] w w' := by
  obtain ⟨cs, up, sz, ls, R, h, g⟩ := h
  have HR0 : ((R a : Int) == (R c : Int)) = eqB x a c := by
    have := g.same ha hc
    unfold eqB
    by_cases e : R a = R c
    · rw [decide_eq_true (this.1 e), e]; simp
    · rw [decide_eq_false (fun h => e (this.2 h))]; simp; omega
  have HR := Lib.hid HR0
  clear HR0
  have ia := inB_nat n a ha
  have ic := inB_nat n c hc
  have cl := h.cl
  go_enter Try.func12, Try.ntmps12
  go_wp2_with (go_at_call 23; refine (has_any _ n _ _ _ (by assumption)).mono ?_; rintro e w' ⟨rfl, rfl⟩)
  refine (root_any s b n _ a w cs up sz ls R h ha).mono ?_
  rintro e w1 ⟨rfl, ⟨cs1, up1, h1⟩, u1⟩
  go_wp2_with fail
  refine (root_any s b n _ c w1 cs1 up1 sz ls R h1 hc).mono ?_
  rintro e w2 ⟨rfl, ⟨cs2, up2, h2⟩, u2⟩
  go_wp2_with fail
  go_ret
  exact ⟨ret_bool HR.out, ⟨cs2, up2, sz, ls, R, h2, g.halve h2.forest⟩, u1.trans u2⟩

end Go.Proofs.Ytlafnjkcogdljaa
