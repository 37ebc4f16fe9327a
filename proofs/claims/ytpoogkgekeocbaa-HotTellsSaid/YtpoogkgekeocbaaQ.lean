/- All: its iterator. -/
import Derived.Test.YtpoogkgekeocbaaM
import Derived.Test.YtpoogkgekeocbaaRange3
namespace Go.Proofs.Ytpoogkgekeocbaa
open Go.RowKit

theorem Own.geT {et : TypeId} {w : World} {B : Nat} {p : Option Addr} {n c : Nat} {x : List Pt} (h : Own et w B (.slice p n c) x) : ∀ b off k, p = some ⟨b, off, k⟩ → B ≤ b ∧ ∃ c f, w.heap[b]? = some (.cells c et f) := by
  intro b off k hp
  rcases h.2 with ⟨h2, _⟩ | ⟨g, cap, cur, h2, hb, hg, _⟩
  · rw [hp] at h2
    simp at h2
  · rw [hp] at h2
    simp only [Value.slice.injEq, Option.some.injEq, Addr.mk.injEq] at h2
    obtain ⟨⟨rfl, _, _⟩, _, _⟩ := h2
    exact ⟨hb, _, _, hg⟩

theorem all_any (s B : Nat) (cs : List Pt) (qs : List RowT) (w : World) (h : SetAt w s B cs qs) : Calls Try.prog 14 #[.pointer (some ⟨s, 0, none⟩)] w fun e w' => ∃ p c, View w p c cs ∧ (∀ b off k, p = some ⟨b, off, k⟩ → B ≤ b ∧ ∃ c f, w.heap[b]? = some (.cells c 24 f)) ∧ e = .returned (.func (.func 45) #[] #[.pointer (some ⟨w.heap.size, 0, none⟩)]) ∧ w' = w.alloc (.cells #[.slice p cs.length c] 22 (0, 0)) := by
  obtain ⟨_, cv, v, rv, h1, h2, h3, h4⟩ := h
  obtain ⟨p, c, rfl, hv⟩ := h2.view
  have c0 : w.cell? ⟨s, 0, none⟩ = some (.slice p cs.length c) := h1.cell 0
  have HV := Lib.hid hv
  have HG := Lib.hid h2.geT
  clear h1 h2 h3 h4 hv
  have h31 : Calls Try.prog 31 #[.slice p cs.length c] w fun e w' => e = .returned (.func (.func 45) #[] #[.pointer (some ⟨w.heap.size, 0, none⟩)]) ∧ w' = w.alloc (.cells #[.slice p cs.length c] 22 (0, 0)) := by
    go_enter Try.func31, Try.ntmps31
    go_wp2_with fail
    go_ret
    exact ⟨rfl, rfl⟩
  go_enter Try.func14, Try.ntmps14
  go_wp2_with (refine h31.mono ?_; rintro e w' ⟨rfl, rfl⟩)
  go_ret
  exact ⟨p, c, HV.out, HG.out, rfl, rfl⟩

structure AKeep (B : Nat) (W : World) (q1 : Nat) (p : Option Addr) (c : Nat) (xs : List Pt) : Prop where
  v : View W p c xs
  lp : ∀ (i : Nat) (x : Pt), xs[i]? = some x → ∃ b off, p = some ⟨b, off, none⟩ ∧ b < B

theorem AKeep.low {B : Nat} {W W' : World} {q1 : Nat} {p : Option Addr} {c : Nat} {xs : List Pt} (h : AKeep B W q1 p c xs) {X : List Nat} (l : Low X B W W')
    (hpx : 0 < xs.length → ∀ b off, p = some ⟨b, off, none⟩ → b ∉ X) : AKeep B W' q1 p c xs := by
  exact ⟨h.v.low l (fun h0 b off e => by
    obtain ⟨b', off', e2, hb⟩ := h.lp 0 _ (List.getElem?_eq_getElem h0)
    rw [e] at e2
    cases e2
    exact ⟨hb, hpx h0 b off e⟩), h.lp⟩

def AAdm (xs : List Pt) (pre : List (Int × Pt)) (y : Int × Pt) (_ : World) : Prop := y.1 = pre.length ∧ xs[pre.length]? = some y.2

set_option maxHeartbeats 1000000 in
theorem all_iter (n' : Nat) (w : World) (q1 : Nat) (p : Option Addr) (c : Nat) (xs : List Pt) (X : List Nat) (hv : View w p c xs) (hn : xs.length ≤ 1048576) (h1 : IsRow w q1 22 [.slice p xs.length c])
    (hpx : 0 < xs.length → ∀ b off k, p = some ⟨b, off, k⟩ → b ∉ X) :
    Iter n' Try.prog 45 #[.pointer (some ⟨q1, 0, none⟩)] (fun y : Int × Pt => #[.int .i64 y.1, pv y.2]) [] X (AAdm xs) (fun ys => ys.length = xs.length) (fun _ => True) w := by
  intro l B J Jx W hW hB hJ hJx hY h0
  have hk0 : AKeep w.heap.size W q1 p c xs := ⟨hv.upd hW, (fun i x hi => by obtain ⟨b, off, e1, e2, _⟩ := hv.cells i x hi; exact ⟨b, off, e1, e2⟩)⟩
  have c0 : W.cell? ⟨q1, 0, none⟩ = some (.slice p xs.length c) := (h1.upd hW (by simp)).cell 0
  have HY := Lib.hid hY
  have HJ := Lib.hid hJ
  have HPX := Lib.hid hpx
  have HK0 := Lib.hid hk0
  clear hY hJ hJx h1 hv hW hB hpx hk0
  refine callsIn_wide.2 ?_
  show Calls Try.prog 45 #[.func (.yield l) #[] #[], .pointer (some ⟨q1, 0, none⟩)] W _
  go_enter Try.func45, Try.ntmps45
  go_wp2_with fail
  go_loopw [7] (fun u7 wr => ∃ (j : Nat) (pre : List (Int × Pt)), j ≤ xs.length ∧ u7 = .int .i64 j ∧ pre.length = j ∧ J pre wr ∧ AKeep w.heap.size wr q1 p c xs) (fun u7 _ => xs.length - (intOf u7).toNat)
  case atStart => exact ⟨0, [], Nat.zero_le _, rfl, rfl, h0, HK0.out⟩
  case round =>
    clear h0 HK0 c0
    obtain ⟨j, pre, hjl, rfl, hpre, hj, hk⟩ := hrel
    by_cases hjx : j < xs.length
    · obtain ⟨⟨a1, a2⟩, ha⟩ : ∃ a, xs[j]? = some a := ⟨xs[j], List.getElem?_eq_getElem hjx⟩
      obtain ⟨bp, op, rfl, hbp, hcx⟩ := hk.v.cells j _ ha
      obtain ⟨ca, ca'⟩ := hcx j _ ha
      change wr.cell? _ = some (.int .i64 a1) at ca
      change wr.cell? _ = some (.int .i64 a2) at ca'
      have UA : Upd [] wr (wr.alloc (.cells #[.int .i64 a1, .int .i64 a2] 24)) := (Upd.refl [] wr).alloc _
      have hj2 := HJ.out _ _ _ hj UA
      have HK2 := Lib.hid (hk.low (UA.toF w.heap.size).low (X := []) (by simp))
      obtain ⟨fn, tmps, assign, body, hy, hR⟩ := HY.out pre ((j : Int), (a1, a2)) (wr.alloc (.cells #[.int .i64 a1, .int .i64 a2] 24)) hj2 ⟨by rw [hpre], by rw [hpre]; exact ha⟩
      dsimp only at hy hR
      change (Instr.yield l #[.int .i64 (j : Int), .agg #[.int .i64 a1, .int .i64 a2]]).run _ _ = _ at hy
      have HR := Lib.hid hR
      have HP := Lib.hid hpre
      clear hR hcx ha hk hpre hj hj2 UA
      refine (wpIn_wide (n := n')).1 ?_
      gi_wp2
      refine ⟨fun hh => by simp [Fence.wide] at hh, HR.out.mono ?_⟩
      rintro e W3 (⟨rfl, hj3, hl3⟩ | ⟨rfl, hx3⟩)
      · have hk3 := HK2.out.low hl3 (fun h0 b off e => HPX.out h0 b off none e)
        clear hy hl3 ca ca'
        gi_wp2
        go_roundw
        case rel => exact ⟨j + 1, _, by omega, by go_num, by simp; exact HP.out, hj3, hk3⟩
        case measure => simp [intOf]; omega
      · clear hy ca ca'
        gi_wp2
        refine bodyPost_ret (results_none rfl _ _ _) rfl ?_
        exact ⟨⟨_, rfl⟩, .inr ⟨_, trivial, hx3⟩⟩
    · have hje : xs.length = j := by omega
      have HP := Lib.hid hpre
      clear hpre
      go_wp2
      go_end0
      exact ⟨⟨_, rfl⟩, .inl ⟨pre, by rw [HP.out]; exact hje.symm, hj⟩⟩

end Go.Proofs.Ytpoogkgekeocbaa
