/- The calls on sets: what each does to the world. -/
import Derived.Test.YtlafnjkcogdljaaRows
import Derived.Test.YtlafnjkcogdljaaLib
import Derived.Test.YtlafnjkcogdljaaMath
import Derived.BigRegion
import Derived.StillTailTactics
import Derived.RegionTactic
import Derived.ChangeAlike
import Derived.Lib.Hide
namespace Go.Proofs.Ytlafnjkcogdljaa
open Go.RowKit

def inB (n : Nat) (a : Int) : Bool := decide (0 ≤ a ∧ a < n)

theorem ret_bool {a b : Bool} (h : a = b) : Ending.returned (.bool a) = .returned (.bool b) := by rw [h]
theorem ret_int {k : IntKind} {a b : Int} (h : a = b) : Ending.returned (.int k a) = .returned (.int k b) := by rw [h]

set_option maxHeartbeats 400000 in
theorem has_any (s n : Nat) (p : Option Addr) (a : Int) (w : World) (hc : w.cell? ⟨s, 0, none⟩ = some (.slice p n n)) :
    Calls Try.prog 23 #[.pointer (some ⟨s, 0, none⟩), .int .i64 a] w fun e w' => e = .returned (.bool (inB n a)) ∧ w = w' := by
  go_enter Try.func23, Try.ntmps23
  go_wp2
  all_goals
    go_ret
    exact ⟨ret_bool (by unfold inB; simp; omega), rfl⟩

theorem inB_nat (n a : Nat) (h : a < n) : inB n a = true := by unfold inB; simp; omega

theorem has_yes (s n : Nat) (p : Option Addr) (a : Int) (w : World) (hc : w.cell? ⟨s, 0, none⟩ = some (.slice p n n)) (h : inB n a = true) :
    Calls Try.prog 23 #[.pointer (some ⟨s, 0, none⟩), .int .i64 a] w fun e w' => e = .returned (.bool true) ∧ w = w' := by
  rw [← h]; exact has_any s n p a w hc
theorem has_no (s n : Nat) (p : Option Addr) (a : Int) (w : World) (hc : w.cell? ⟨s, 0, none⟩ = some (.slice p n n)) (h : inB n a = false) :
    Calls Try.prog 23 #[.pointer (some ⟨s, 0, none⟩), .int .i64 a] w fun e w' => e = .returned (.bool false) ∧ w = w' := by
  rw [← h]; exact has_any s n p a w hc

structure Tree (cs : List Value) (n : Nat) (up sz ls : Nat → Nat) : Prop where
  len : cs.length = n * 3
  u : ∀ i, i < n → cs[i * 3]? = some (.int .i64 (up i))
  z : ∀ i, i < n → cs[i * 3 + 1]? = some (.int .i64 (sz i))
  l : ∀ i, i < n → cs[i * 3 + 2]? = some (.int .i64 (ls i))

theorem Tree.set_u {cs n up sz ls} (h : Tree cs n up sz ls) {k : Nat} (hk : k < n) (v : Nat) : Tree (cs.set (k * 3) (.int .i64 v)) n (put up k v) sz ls := by
  refine ⟨by simp [h.len], fun i hi => ?_, fun i hi => ?_, fun i hi => ?_⟩
  · by_cases e : i = k
    · subst e; rw [put_same, List.getElem?_set_self (by rw [h.len]; omega)]
    · rw [put_other _ _ _ _ e, List.getElem?_set_ne (by omega)]; exact h.u i hi
  · rw [List.getElem?_set_ne (by omega)]; exact h.z i hi
  · rw [List.getElem?_set_ne (by omega)]; exact h.l i hi
theorem Tree.set_z {cs n up sz ls} (h : Tree cs n up sz ls) {k : Nat} (hk : k < n) (v : Nat) : Tree (cs.set (k * 3 + 1) (.int .i64 v)) n up (put sz k v) ls := by
  refine ⟨by simp [h.len], fun i hi => ?_, fun i hi => ?_, fun i hi => ?_⟩
  · rw [List.getElem?_set_ne (by omega)]; exact h.u i hi
  · by_cases e : i = k
    · subst e; rw [put_same, List.getElem?_set_self (by rw [h.len]; omega)]
    · rw [put_other _ _ _ _ e, List.getElem?_set_ne (by omega)]; exact h.z i hi
  · rw [List.getElem?_set_ne (by omega)]; exact h.l i hi
theorem Tree.set_l {cs n up sz ls} (h : Tree cs n up sz ls) {k : Nat} (hk : k < n) (v : Nat) : Tree (cs.set (k * 3 + 2) (.int .i64 v)) n up sz (put ls k v) := by
  refine ⟨by simp [h.len], fun i hi => ?_, fun i hi => ?_, fun i hi => ?_⟩
  · rw [List.getElem?_set_ne (by omega)]; exact h.u i hi
  · rw [List.getElem?_set_ne (by omega)]; exact h.z i hi
  · by_cases e : i = k
    · subst e; rw [put_same, List.getElem?_set_self (by rw [h.len]; omega)]
    · rw [put_other _ _ _ _ e, List.getElem?_set_ne (by omega)]; exact h.l i hi

/-- What lies in memory: the two cells of the sets, and the trees. -/
structure Raw (w : World) (s b n : Nat) (cnt : Int) (cs : List Value) (up sz ls R : Nat → Nat) : Prop where
  ne : s ≠ b
  hs : IsRow w s 52 [.slice (some ⟨b, 0, none⟩) n n, .int .i64 cnt]
  hb : IsRow w b 54 cs
  tree : Tree cs n up sz ls
  forest : Forest n up sz R
  small : n ≤ 1048576

section
variable {w : World} {s b n : Nat} {cnt : Int} {cs : List Value} {up sz ls R : Nat → Nat}
theorem Raw.cl (h : Raw w s b n cnt cs up sz ls R) : w.cell? ⟨s, 0, none⟩ = some (.slice (some ⟨b, 0, none⟩) n n) := by rw [h.hs.cell]; rfl
theorem Raw.cc (h : Raw w s b n cnt cs up sz ls R) : w.cell? ⟨s, 1, none⟩ = some (.int .i64 cnt) := by rw [h.hs.cell]; rfl
theorem Raw.cu (h : Raw w s b n cnt cs up sz ls R) {k : Nat} (hk : k < n) : w.cell? ⟨b, k * 3, none⟩ = some (.int .i64 (up k)) := by rw [h.hb.cell]; exact h.tree.u k hk
theorem Raw.cz (h : Raw w s b n cnt cs up sz ls R) {k : Nat} (hk : k < n) : w.cell? ⟨b, k * 3 + 1, none⟩ = some (.int .i64 (sz k)) := by rw [h.hb.cell]; exact h.tree.z k hk
theorem Raw.cm (h : Raw w s b n cnt cs up sz ls R) {k : Nat} (hk : k < n) : w.cell? ⟨b, k * 3 + 2, none⟩ = some (.int .i64 (ls k)) := by rw [h.hb.cell]; exact h.tree.l k hk
theorem Raw.fs (h : Raw w s b n cnt cs up sz ls R) (o : Nat) : w.frozen? ⟨s, o, none⟩ = false := h.hs.free o
theorem Raw.fb (h : Raw w s b n cnt cs up sz ls R) (o : Nat) : w.frozen? ⟨b, o, none⟩ = false := h.hb.free o
theorem Raw.drew (h : Raw w s b n cnt cs up sz ls R) : Raw w.drew s b n cnt cs up sz ls R := ⟨h.ne, h.hs, h.hb, h.tree, h.forest, h.small⟩
theorem Raw.upd {w' : World} {S : List Nat} (h : Raw w s b n cnt cs up sz ls R) (u : Upd S w w') (h1 : s ∉ S) (h2 : b ∉ S) : Raw w' s b n cnt cs up sz ls R :=
  ⟨h.ne, h.hs.upd u h1, h.hb.upd u h2, h.tree, h.forest, h.small⟩
theorem Raw.halve (h : Raw w s b n cnt cs up sz ls R) {k : Nat} (hk : k < n) (hne : up k ≠ k) :
    Raw (w.setCell ⟨b, k * 3, none⟩ (.int .i64 (up (up k)))) s b n cnt (cs.set (k * 3) (.int .i64 (up (up k)))) (put up k (up (up k))) sz ls R :=
  ⟨h.ne, h.hs.setCell_other _ h.ne.symm _, h.hb.setCell_same _ _, h.tree.set_u hk _, h.forest.halve hk hne, h.small⟩
end

set_option maxHeartbeats 400000 in
theorem root_any (s b n : Nat) (cnt : Int) (a : Nat) (w : World) (cs : List Value) (up sz ls R : Nat → Nat) (h : Raw w s b n cnt cs up sz ls R) (ha : a < n) :
    Calls Try.prog 24 #[.pointer (some ⟨s, 0, none⟩), .int .i64 a] w fun e w' => e = .returned (.int .i64 (R a)) ∧ (∃ cs' up', Raw w' s b n cnt cs' up' sz ls R) ∧ Upd [b] w w' := by
  have hn := h.small
  go_enter Try.func24, Try.ntmps24
  go_wp2
  go_loopw [1] (fun i wr => ∃ k : Nat, i = .int .i64 k ∧ k < n ∧ R k = R a ∧ (∃ cs' up', Raw wr s b n cnt cs' up' sz ls R) ∧ Upd [b] w wr) (fun i _ => n - sz (intOf i).toNat)
  case atStart => exact ⟨a, rfl, ha, rfl, ⟨cs, up, h⟩, Upd.refl _ _⟩
  case round =>
    obtain ⟨k, rfl, hk, hR, ⟨cs1, up1, h1⟩, hu1⟩ := hrel
    have HR := Lib.hid hR
    clear hR h
    have c1 := h1.cl
    have c2 := h1.cu hk
    have hk1 := h1.forest.lt k hk
    have c3 := h1.cu hk1
    have hk2 := h1.forest.lt _ hk1
    have f1 := h1.fb (k * 3)
    by_cases hne : up1 k = k
    · have hne' : ((up1 k : Int) != (k : Int)) = false := by simp [hne]
      have HN := Lib.hid hne
      clear hne
      go_wp2
      go_ret
      exact ⟨ret_int (by rw [← HR.out, h1.forest.self k hk HN.out]), ⟨cs1, up1, h1⟩, hu1⟩
    · have hne' : ((up1 k : Int) != (k : Int)) = true := by simp; omega
      have hh := (h1.halve hk hne).drew
      have hg := h1.forest.grow k hk hne
      have hl := h1.forest.le _ hk2
      have hg2 : sz (up1 k) ≤ sz (up1 (up1 k)) := by
        by_cases e : up1 (up1 k) = up1 k
        · rw [e]; exact Nat.le_refl _
        · exact Nat.le_of_lt (h1.forest.grow _ hk1 e)
      have HR2 : Hid (R (up1 (up1 k)) = R a) := Lib.hid (by rw [h1.forest.Rup _ hk1, h1.forest.Rup _ hk]; exact HR.out)
      have hu2 : Upd [b] w (wr.setCell ⟨b, k * 3, none⟩ (.int .i64 (up1 (up1 k)))).drew := (hu1.setCell (p := ⟨b, k * 3, none⟩) (by simp) _).drew
      have d1 := hh.cl
      have d2 := hh.cu hk
      rw [put_same] at d2
      go_wp2
      go_region
      generalize (wr.setCell ⟨b, k * 3, none⟩ (.int .i64 (up1 (up1 k)))).drew = W2 at hh hu2 d1 d2 ⊢
      clear c1 c2 c3 f1
      go_wp2
      go_roundw
      case rel => exact ⟨_, rfl, hk2, HR2.out, ⟨_, _, hh⟩, hu2⟩
      case measure => simp [intOf]; omega

end Go.Proofs.Ytlafnjkcogdljaa
