/- refs; the reference's Sorted. -/
import Derived.Test.YtpoogkgekeocbaaG
namespace Go.Proofs.Ytpoogkgekeocbaa
open Go.RowKit

theorem oneAt_new2 (w : World) (o : Obj) (u : Pt) (t : TypeId) : OneAt ((w.alloc o).alloc (.cells #[.int .i64 u.1, .int .i64 u.2] t)) (w.heap.size + 1) u := by
  have h := oneAt_new (w.alloc o) u t
  rw [World.size_alloc] at h
  exact h

theorem wpList_append_oneg {α : Type} [Enc α] {et st : TypeId} (T : Ty2 st et) {ops : Array Oper} {rest : List Oper} {o : Oper} {a : Act} {Q : Exit → Act → World → Prop} {w : World} {u : α} (hgd : o.guard = none) (s x : Operand)
    (ho : o.op = .call { callee := .builtin .append, args := #[s, x], argTypes := #[st, st] })
    (w0 : World) (v : Value) (xs : List α) (b c : Nat) (hs : a.eval s = v) (hx : a.eval x = .slice (some ⟨b, 0, none⟩) 1 c) (hc : OneAt w b u)
    (hown : Own et w w0.heap.size v xs) (hu : Upd [] w0 w) (hn : xs.length + 1 ≤ 1048576)
    (h : ∀ v' w', Own et w' w0.heap.size v' (xs ++ [u]) → Upd [] w0 w' → Upd v.ownBlock.toList w w' → wpList Try.prog ops Q rest (a.put o.dst v') w') : wpList Try.prog ops Q (o :: rest) a w := by
  refine wpList_plain hgd fun _ hK => ?_
  obtain ⟨g, cap, w', hr, h2, h3, _⟩ := run_append_one (c := c) T hown hc hu.size hn o.type
  have h5 := own_grown hown h3 hu (Nat.le_refl _)
  have h6 : Upd v.ownBlock.toList w w' := (Upd.refl _ w).grown h3 (fun k hk => .inl (by simp [hk]))
  unfold Oper.wp execOp
  simp only [ho, resolve, invoke, builtin, Sem.run_bind, Sem.run_pure, Result.andThen_ok, List.map_toArray, List.map_cons, List.map_nil, hs, hx, hr]
  exact hK _ _ (h _ w' h2 h5 h6)

theorem own_not {α : Type} [Enc α] {et : TypeId} {w : World} {B : Nat} {v : Value} {x : List α} (h : Own et w B v x) {q : Nat} (hq : w.heap.size ≤ q) : q ∉ v.ownBlock.toList := by
  intro e
  obtain ⟨_, c, e', f, hk⟩ := h.row q (by simpa using e)
  have := (Array.getElem?_eq_some_iff.1 hk).1
  omega

set_option maxHeartbeats 1000000 in
theorem refs_any (p : Option Addr) (c : Nat) (xs : List Pt) (w : World) (hx : View w p c xs) (hn : xs.length ≤ 1000000) :
    Calls Try.prog 9 #[.slice p xs.length c] w fun e w' => (∃ v, e = .returned (.tuple #[v, .bool (xs.all rightP)]) ∧ Own 34 w' w.heap.size v xs) ∧ Upd [] w w' := by
  have HX := Lib.hid hx
  clear hx
  go_enter Try.func9, Try.ntmps9
  go_wp2_with fail
  go_loopw [4, 5, 10] (fun u4 u5 u10 wr => ∃ j : Nat, j ≤ xs.length ∧ u10 = .int .i64 j ∧ u5 = .bool ((xs.take j).all rightP) ∧ Own 34 wr w.heap.size u4 (xs.take j) ∧ Upd [] w wr) (fun _ _ u10 _ => xs.length - (intOf u10).toNat)
  case atStart => exact ⟨0, Nat.zero_le _, rfl, by simp, Own.nil _ _, Upd.refl _ _⟩
  case round =>
    obtain ⟨j, hj, rfl, rfl, hown, U0⟩ := hrel
    have hol : (xs.take j).length ≤ 1000000 := by rw [List.length_take]; omega
    have HO := Lib.hid hown
    by_cases hjl : j < xs.length
    · obtain ⟨⟨a1, a2⟩, ha⟩ : ∃ a, xs[j]? = some a := ⟨xs[j], List.getElem?_eq_getElem hjl⟩
      obtain ⟨bx, ox, rfl, _, hcx⟩ := (HX.out.upd U0).cells j (a1, a2) ha
      obtain ⟨ca, ca'⟩ := hcx j (a1, a2) ha
      have htk : xs.take (j + 1) = xs.take j ++ [(a1, a2)] := by rw [List.take_add_one, ha]; rfl
      have hal : (xs.take (j + 1)).all rightP = ((xs.take j).all rightP && rightP (a1, a2)) := by rw [htk, List.all_append]; simp
      have HTK := Lib.hid htk
      have HAL := Lib.hid hal
      generalize hb : (xs.take j).all rightP = b at hal
      rw [hb] at HAL
      change wr.cell? _ = some (.int .i64 a1) at ca
      change wr.cell? _ = some (.int .i64 a2) at ca'
      have r1 := IsRow.new wr [.int .i64 a1, .int .i64 a2] 24
      have HR := Lib.hid r1
      obtain ⟨q, hq⟩ : ∃ z, z = wr.heap.size := ⟨_, rfl⟩
      rw [← hq] at HR
      have HQ := Lib.hid hq
      clear hcx ha htk hal hown hb r1
      cases b with
      | true =>
        go_wp2_with (at_builtin; (refine wpList_append_oneg ty30 (u := (a1, a2)) rfl _ _ rfl w _ _ _ 1 (by rfl) (by rfl) (oneAt_new2 _ _ (a1, a2) _) (HO.out.kept (((Upd.refl [] wr).alloc (.cells #[.int .i64 a1, .int .i64 a2] 24)).alloc (.cells #[.int .i64 a1, .int .i64 a2] 34)) (fun _ h => nomatch h)) ((U0.alloc _).alloc _) (by rw [List.length_take]; omega) ?_))
        intro v2 w2 ho2 U2 U3
        have hqn := own_not HO.out (q := wr.heap.size) (Nat.le_refl _)
        have rq := (HR.out.alloc (.cells #[.int .i64 a1, .int .i64 a2] 34)).upd U3 (by rw [HQ.out]; exact hqn)
        rw [← HTK.out] at ho2
        have ho3 := Lib.hid ho2
        have d0 : w2.cell? ⟨q, 0, none⟩ = some (.int .i64 a1) := rq.cell 0
        have d1 : w2.cell? ⟨q, 1, none⟩ = some (.int .i64 a2) := rq.cell 1
        rw [← HQ.out]
        clear U0 U3 ca ca' ho2 rq hqn hq
        go_wp2_with (go_at_call 28; refine (refright_any (a1, a2) _).mono ?_; rintro e w9 ⟨rfl, U9⟩)
        have ho4 := ho3.out.kept U9 (fun _ h => nomatch h)
        have U4 := U2.trans U9
        have HO4 := Lib.hid ho4
        clear ho4 U2 U9 d0 d1
        go_wp2_with fail
        go_roundw
        case rel => exact ⟨j + 1, by omega, by go_num, by rw [HAL.out]; rfl, HO4.out, U4⟩
        case measure => simp [intOf]; omega
      | false =>
        go_wp2_with (at_builtin; (refine wpList_append_oneg ty30 (u := (a1, a2)) rfl _ _ rfl w _ _ _ 1 (by rfl) (by rfl) (oneAt_new2 _ _ (a1, a2) _) (HO.out.kept (((Upd.refl [] wr).alloc (.cells #[.int .i64 a1, .int .i64 a2] 24)).alloc (.cells #[.int .i64 a1, .int .i64 a2] 34)) (fun _ h => nomatch h)) ((U0.alloc _).alloc _) (by rw [List.length_take]; omega) ?_))
        intro v2 w2 ho2 U2 U3
        rw [← HTK.out] at ho2
        have ho3 := Lib.hid ho2
        clear U0 U3 ca ca' ho2 hq
        go_wp2_with fail
        go_roundw
        case rel => exact ⟨j + 1, by omega, by go_num, by rw [HAL.out]; rfl, ho3.out, U2⟩
        case measure => simp [intOf]; omega
    · have hje : j = xs.length := by omega
      subst hje
      rw [List.take_length] at HO
      have hl2 := hol
      rw [List.take_length]
      clear hown
      go_wp2_with fail
      exact bodyPost_ret (by simp [results, Try.results9, go_sem]) rfl ⟨⟨_, rfl, HO.out⟩, U0⟩

end Go.Proofs.Ytpoogkgekeocbaa
