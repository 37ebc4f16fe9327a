/- UnionGroups answers true for every number, every list of pairs and every stop; its arguments read as they did. No condition. -/
import Derived.Test.YtlafnjkcogdljaaOpen
import Derived.Test.YtlafnjkcogdljaaGroups
namespace Go.Proofs.Ytlafnjkcogdljaa
open Go.ChangeShapes Go.WideShapes Go.ChangeAt Go.RowKit

/-- What the law has laid ahead of its guard. -/
theorem gguard_step (n stop : Int) (w W : World) (hW : W = ((w.alloc (.cells #[.int .i64 n] 3)).alloc (.cells #[.int .i64 stop] 3)).alloc (.cells #[.bool false] 4)) {w9 : World} (U9 : Upd [] W w9) :
    w9.cell? ⟨w.heap.size + 1 + 1, 0, none⟩ = some (.bool false) ∧ w9.frozen? ⟨w.heap.size + 1 + 1, 0, none⟩ = false ∧
    (w9.setCell ⟨w.heap.size + 1 + 1, 0, none⟩ (.bool true)).cell? ⟨w.heap.size + 1 + 1, 0, none⟩ = some (.bool true) ∧ Upd [] w (w9.setCell ⟨w.heap.size + 1 + 1, 0, none⟩ (.bool true)) := by
  have rb := IsRow.new ((w.alloc (.cells #[.int .i64 n] 3)).alloc (.cells #[.int .i64 stop] 3)) [.bool false] 4
  have U1 : Upd [] w W := by rw [hW]; exact (((Upd.refl [] w).alloc _).alloc _).alloc _
  simp only [World.size_alloc] at rb
  have rb' : IsRow W (w.heap.size + 1 + 1) 4 [.bool false] := by rw [hW]; exact rb
  have r9 := rb'.upd U9 (by simp)
  exact ⟨r9.cell 0, r9.free 0, (r9.setCell_same 0 _).cell 0, (U1.trans U9).setCell_new (p := ⟨w.heap.size + 1 + 1, 0, none⟩) (by show w.heap.size ≤ w.heap.size + 1 + 1; omega) _⟩

set_option maxRecDepth 100000 in
theorem gguard_walk (n : Int) (p : Option Addr) (len cap : Nat) (stop : Int) (w : World) (hg : n < 0 ∨ 60 < n ∨ (0 ≤ n ∧ n ≤ 60 ∧ 80 < len)) :
    Calls Try.prog 6 #[.int .i64 n, .slice p len cap, .int .i64 stop] w fun e w' => e = .returned (.bool true) ∧ Upd [] w w' := by
  rcases hg with h | h | ⟨h0, h1, h2⟩
  · go_enter Try.func6, Try.ntmps6
    go_wp2_with fail
    refine (awake_any _).mono ?_
    rintro e w9 ⟨rfl, U9⟩
    obtain ⟨k1, k2, k3, k4⟩ := gguard_step n stop w _ rfl U9
    clear U9
    go_wp2_with fail
    exact bodyPost_ret (v := .bool true) (by simp [results, Try.results6, go_sem, k3]) rfl ⟨rfl, k4⟩
  · have h0 : ¬ n < 0 := by omega
    go_enter Try.func6, Try.ntmps6
    go_wp2_with fail
    refine (awake_any _).mono ?_
    rintro e w9 ⟨rfl, U9⟩
    obtain ⟨k1, k2, k3, k4⟩ := gguard_step n stop w _ rfl U9
    clear U9
    go_wp2_with fail
    exact bodyPost_ret (v := .bool true) (by simp [results, Try.results6, go_sem, k3]) rfl ⟨rfl, k4⟩
  · go_enter Try.func6, Try.ntmps6
    go_wp2_with fail
    refine (awake_any _).mono ?_
    rintro e w9 ⟨rfl, U9⟩
    obtain ⟨k1, k2, k3, k4⟩ := gguard_step n stop w _ rfl U9
    clear U9
    go_wp2_with fail
    exact bodyPost_ret (v := .bool true) (by simp [results, Try.results6, go_sem, k3]) rfl ⟨rfl, k4⟩

theorem groups_all (n : Int) (p : Option Addr) (len cap : Nat) (a : Int) (ps : List (Int × Int)) (w : World) (hps : ps.length = len) (hl : Pairs w p ps) :
    Calls Try.prog 6 #[.int .i64 n, .slice p len cap, .int .i64 a] w fun e w' => e = .returned (.bool true) ∧ Upd [] w w' := by
  by_cases hg : n < 0 ∨ 60 < n ∨ (0 ≤ n ∧ n ≤ 60 ∧ 80 < len)
  · exact gguard_walk n p len cap a w hg
  · obtain ⟨k, rfl⟩ : ∃ k : Nat, n = k := ⟨n.toNat, by omega⟩
    exact groups_walk k p len cap a ps w (by omega) (by omega) hps hl

set_option maxRecDepth 100000 in
theorem groups_lifted (os : Os) (started : os.Started) (H : Type) (enc : TypeId × Value → H) :
    ReturnsInHanded {} Try.checked os 6 .any (Rows.unionGroupsSpec.pre6 enc Try.prog Try.f6 Rows.unionGroupsRow.domain false) (Rows.unionGroupsSpec.post enc Try.prog Try.f6 false true false false) := by
  refine returnsInHanded_of_change (C := Try.checked) Try.own started (by kernel_rfl) Try.func6
    (ChangeSpec.witness6 (enc := enc) (C := Try.checked) false ⟨#[], #[.int .i64 0, .slice none 0 0, .int .i64 0], []⟩ 8 (by kernel_rfl) (by kernel_rfl) (by kernel_rfl) (by kernel_rfl)) ?_
  intro W base args ds gs before hval0 hW hcnd _
  have hval : ∀ (j : Nat) t v, Try.f6.params[j]? = some t → args[j]? = some v → Value.okWide Try.prog W .any base t v := hval0
  have hW' := hW
  obtain ⟨p, q, hA0, hV, rfl, hfz, hnd⟩ := hW
  have hA : DataW.TrodAll enc Try.prog W 0 (fun _ => true) true Try.f6.params.toList args.toList ds p := hA0
  rw [Try.params6] at hA hval
  obtain ⟨v0, vs0, d0, ds0, p0, q0, hargs, rfl, rfl, h0, r0⟩ := trodAll_cons hA
  obtain ⟨v1, vs1, d1, ds1, p1, q1, rfl, rfl, rfl, h1, r1⟩ := trodAll_cons r0
  obtain ⟨v2, vs2, d2, ds2, p2, q2, rfl, rfl, rfl, h2, r2⟩ := trodAll_cons r1
  obtain ⟨rfl, rfl, rfl⟩ := trodAll_nil r2
  obtain rfl : args = #[v0, v1, v2] := by cases args; simp_all
  obtain ⟨rfl, rfl⟩ := trodVars_none hV
  obtain ⟨a0, rfl, rfl, rfl, w0⟩ := open_int Try.underlying3 (hval 0 3 v0 rfl rfl) h0
  obtain ⟨a2, rfl, rfl, rfl, w2⟩ := open_int Try.underlying3 (hval 2 3 v2 rfl rfl) h2
  obtain ⟨p', len', cap', rfl⟩ := okWide_slice Try.underlying22 (hval 1 22 v1 rfl rfl)
  obtain ⟨fuel, hf⟩ := h1
  obtain ⟨pp, len, cap, ps, hcs, hps, _, hpairs⟩ := open_pairs Try.underlying22 Try.underlying29 (by kernel_rfl) Try.underlying3 (by kernel_rfl) ⟨rfl, rfl⟩ ⟨rfl, rfl⟩ hf
  simp only [Value.cells, List.cons.injEq, Value.slice.injEq, and_true] at hcs
  obtain ⟨rfl, rfl, rfl⟩ := hcs
  refine (groups_all a0 _ _ _ a2 ps W hps hpairs).mono fun e W' ⟨he, hu⟩ => ?_
  subst he
  exact ⟨_, rfl, law_post Try.laidOut (by kernel_rfl) rfl (by kernel_rfl) Try.underlying4 rfl hW' (hu.below (Nat.le_refl _) (by simp))⟩

theorem groups_holds : Rows.UnionGroupsSaid :=
  OpenClaim.holds_of_wide 6 Try.f6 rfl rfl rfl rfl rfl rfl rfl ⟨rfl, rfl, rfl, rfl, rfl⟩ rfl rfl rfl rfl rfl (by kernel_rfl) Try.func6 (by kernel_rfl)
    (of_decide_eq_true (by kernel_rfl)) (by unfold Func.isWrapper; first | (rw [if_pos (by decide +kernel)]; kernel_rfl) | (rw [if_neg (by decide +kernel)]; exact ⟨rfl, rfl⟩))
    (fun os started H enc _ => groups_lifted os started H enc)
#print axioms groups_holds

end Go.Proofs.Ytlafnjkcogdljaa
