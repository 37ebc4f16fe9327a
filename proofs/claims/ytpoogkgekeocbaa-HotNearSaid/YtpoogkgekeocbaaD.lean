/- Runs of points: the iterator. -/
import Derived.Test.YtpoogkgekeocbaaC
namespace Go.Proofs.Ytpoogkgekeocbaa
open Go.RowKit

theorem clone_any' (p : Option Addr) (c n : Nat) (xs : List Pt) (w : World) (hx : View w p c xs) (hn : xs.length ≤ 1048576) (h1 : xs.length = n) :
    Calls Try.prog 43 #[.slice p n c] w fun e w' => (∃ v, e = .returned v ∧ Own 24 w' w.heap.size v xs) ∧ Upd [] w w' := by
  subst h1
  exact clone_any p c xs w hx hn


def sm40 (a b : Pt) : Bool := ordP false a b == 0
def sm27 (a b : Pt) : Bool := a.2 == b.2
theorem same27 (a b : Pt) (w : World) : Calls Try.prog 27 #[pv a, pv b] w fun e w' => e = .returned (.bool (sm27 a b)) ∧ Upd [] w w' := samey_any a b w

theorem same40 (a b : Pt) (q : Nat) (w : World) (hc : w.cell? ⟨q, 0, none⟩ = some (.func (.func 23) #[] #[])) : Calls Try.prog 40 #[pv a, pv b, .pointer (some ⟨q, 0, none⟩)] w fun e w' => e = .returned (.bool (sm40 a b)) ∧ Upd [] w w' := by
  obtain ⟨a1, a2⟩ := a
  obtain ⟨b1, b2⟩ := b
  have hlt := World.block_lt_of_cell? w _ hc
  have U : Upd [] w ((w.alloc (.cells #[.int .i64 a1, .int .i64 a2] 24)).alloc (.cells #[.int .i64 b1, .int .i64 b2] 24)) := ((Upd.refl [] w).alloc _).alloc _
  have hc2 := (U.cell (p := ⟨q, 0, none⟩) hlt (by simp)).trans hc
  show Calls Try.prog 40 #[.agg #[.int .i64 a1, .int .i64 a2], .agg #[.int .i64 b1, .int .i64 b2], .pointer (some ⟨q, 0, none⟩)] w _
  clear hc hlt
  go_enter Try.func40, Try.ntmps40
  go_wp2_with fail
  refine (cmp_any (a1, a2) (b1, b2) _).mono ?_
  rintro e w9 ⟨rfl, U9⟩
  go_wp2_with fail
  go_ret
  exact ⟨rfl, U.trans U9⟩

theorem runs_any (p : Option Addr) (n c : Nat) (f : Fn) (y z : Array Value) (w : World) : Calls Try.prog 24 #[.slice p n c, .func f y z] w fun e w' => e = .returned (.func (.func 42) #[] #[.pointer (some ⟨w.heap.size, 0, none⟩), .pointer (some ⟨w.heap.size + 1, 0, none⟩)]) ∧ w' = (w.alloc (.cells #[.slice p n c] 22 (0, 0))).alloc (.cells #[.func f y z] 65 (0, 0)) := by
  go_enter Try.func24, Try.ntmps24
  go_wp2
  go_ret
  exact ⟨by simp, rfl⟩

/-- the number that lies there -/
def nth (l : List Pt) (i : Nat) : Pt := (l[i]?).getD (0, 0)
theorem nth_of {l : List Pt} {i : Nat} {a : Pt} (h : l[i]? = some a) : nth l i = a := by unfold nth; rw [h]; rfl

/-- a piece begins there -/
def isHead (sm : Pt → Pt → Bool) (l : List Pt) (i : Nat) : Bool := decide (i = 0 ∨ sm (nth l (i - 1)) (nth l i) = false)
/-- the first of each piece -/
def heads (sm : Pt → Pt → Bool) (l : List Pt) : Nat → List Pt
  | 0 => []
  | i + 1 => heads sm l i ++ (if isHead sm l i = true then [nth l i] else [])

theorem heads_len (sm : Pt → Pt → Bool) (l : List Pt) : ∀ i, (heads sm l i).length ≤ i
  | 0 => Nat.le_refl _
  | i + 1 => by
    have := heads_len sm l i
    simp only [heads]
    split <;> simp <;> omega

/-- from t on the list stands of a piece r -/
structure Piece (sm : Pt → Pt → Bool) (l : List Pt) (t : Nat) (r : List Pt) : Prop where
  pos : 0 < r.length
  le : t + r.length ≤ l.length
  eq : r = (l.drop t).take r.length
  head : isHead sm l t = true
  same : ∀ i, t < i → i < t + r.length → isHead sm l i = false
  stop : t + r.length = l.length ∨ isHead sm l (t + r.length) = true

theorem Piece.at {sm : Pt → Pt → Bool} {l : List Pt} {t : Nat} {r : List Pt} (h : Piece sm l t r) {i : Nat} (hi : i < r.length) : r[i]? = l[t + i]? := by
  have e := h.eq
  rw [e]
  rw [List.getElem?_take_of_lt hi, List.getElem?_drop]

theorem Piece.first {sm : Pt → Pt → Bool} {l : List Pt} {t : Nat} {r : List Pt} (h : Piece sm l t r) : r[0]? = some (nth l t) := by
  have hp := h.pos
  have hl := h.le
  rw [h.at hp, Nat.add_zero, List.getElem?_eq_getElem (by omega)]
  unfold nth
  rw [List.getElem?_eq_getElem (by omega)]
  rfl

theorem Piece.heads {sm : Pt → Pt → Bool} {l : List Pt} {t : Nat} {r : List Pt} (h : Piece sm l t r) : heads sm l (t + r.length) = heads sm l t ++ [nth l t] := by
  have key2 : ∀ d, d + 1 ≤ r.length → Ytpoogkgekeocbaa.heads sm l (t + (d + 1)) = Ytpoogkgekeocbaa.heads sm l t ++ [nth l t] := by
    intro d
    induction d with
    | zero =>
      intro _
      show Ytpoogkgekeocbaa.heads sm l t ++ _ = _
      rw [if_pos h.head]
    | succ d ih =>
      intro hd
      have := ih (by omega)
      show Ytpoogkgekeocbaa.heads sm l (t + (d + 1)) ++ (if isHead sm l (t + (d + 1)) = true then [nth l (t + (d + 1))] else []) = _
      rw [this, h.same (t + (d + 1)) (by omega) (by omega), if_neg (by simp), List.append_nil]
  have hp := h.pos
  obtain ⟨d, hd⟩ : ∃ d, r.length = d + 1 := ⟨r.length - 1, by omega⟩
  rw [hd]
  exact key2 d (by omega)

def total : List (List Pt) → Nat
  | [] => 0
  | r :: rs => r.length + total rs
theorem total_append (a b : List (List Pt)) : total (a ++ b) = total a + total b := by
  induction a with
  | nil => simp [total]
  | cons r a ih => simp only [List.cons_append, total, ih]; omega
theorem total_one (r : List Pt) : total [r] = r.length := by simp [total]


/-- how many numbers in all -/
def tot (ys : List (Value × List Pt)) : Nat := total (ys.map (·.2))
theorem tot_one (ys : List (Value × List Pt)) (y : Value × List Pt) : tot (ys ++ [y]) = tot ys + y.2.length := by
  unfold tot
  rw [List.map_append, total_append]
  simp [total]

def RAdm (sm : Pt → Pt → Bool) (xs : List Pt) (B : Nat) (pre : List (Value × List Pt)) (y : Value × List Pt) (W : World) : Prop := Piece sm xs (tot pre) y.2 ∧ Own 24 W B y.1 y.2

/-- f: where the piece begins; i: up to where it's looked at. -/
structure RInv (sm : Pt → Pt → Bool) (xs : List Pt) (f i : Nat) (pre : List (Value × List Pt)) : Prop where
  lt : f < i
  le : i ≤ xs.length + 1
  fin : i = xs.length + 1 → f = xs.length
  tot : tot pre = f
  head : f < xs.length → isHead sm xs f = true
  same : ∀ k, f < k → k < i → k < xs.length → isHead sm xs k = false

theorem RInv.start (sm : Pt → Pt → Bool) (xs : List Pt) : RInv sm xs 0 1 [] := ⟨by omega, by omega, by omega, rfl, fun _ => by unfold isHead; simp, fun k h1 h2 => by omega⟩
theorem RInv.done {sm : Pt → Pt → Bool} {xs : List Pt} {f i pre} (h : RInv sm xs f i pre) (hi : xs.length < i) : Ytpoogkgekeocbaa.tot pre = xs.length := by
  rw [h.tot]; exact h.fin (by have := h.le; omega)

theorem RInv.more {sm : Pt → Pt → Bool} {xs : List Pt} {f j : Nat} {pre} (h : RInv sm xs f (j + 1) pre) (hl : j + 1 < xs.length) {a b : Pt} (ha : xs[j]? = some a) (hb : xs[j + 1]? = some b) (he : sm a b = true) : RInv sm xs f (j + 1 + 1) pre := by
  have hlt := h.lt
  refine ⟨by omega, by omega, by omega, h.tot, h.head, fun k h1 h2 h3 => ?_⟩
  by_cases e : k = j + 1
  · subst e
    unfold isHead
    refine decide_eq_false ?_
    rw [Nat.add_sub_cancel, nth_of ha, nth_of hb, he]
    simp
  · exact h.same k h1 (by omega) h3

theorem RInv.cut {sm : Pt → Pt → Bool} {xs : List Pt} {f i : Nat} {pre} (h : RInv sm xs f i pre) (hc : i = xs.length ∨ ∃ a b, xs[i - 1]? = some a ∧ xs[i]? = some b ∧ sm a b = false) :
    Piece sm xs (Ytpoogkgekeocbaa.tot pre) ((xs.drop f).take (i - f)) ∧ ∀ v, RInv sm xs i (i + 1) (pre ++ [(v, (xs.drop f).take (i - f))]) := by
  have hlt := h.lt
  have hil : i ≤ xs.length := by
    rcases hc with hc | ⟨a, b, _, hb, _⟩
    · omega
    · have := (List.getElem?_eq_some_iff.1 hb).1; omega
  have hlen : ((xs.drop f).take (i - f)).length = i - f := by rw [List.length_take, List.length_drop]; omega
  have hhead : i = xs.length ∨ isHead sm xs i = true := by
    rcases hc with hc | ⟨a, b, ha, hb, he⟩
    · exact .inl hc
    · refine .inr ?_
      unfold isHead
      refine decide_eq_true (.inr ?_)
      rw [nth_of ha, nth_of hb]
      exact he
  have e1 : f + (i - f) = i := by omega
  refine ⟨?_, fun v => ⟨by omega, by omega, by omega, ?_, ?_, fun k h1 h2 h3 => by omega⟩⟩
  · rw [h.tot]
    refine ⟨by rw [hlen]; omega, by rw [hlen]; omega, by rw [hlen], h.head (by omega), fun k h1 h2 => ?_, ?_⟩
    · rw [hlen, e1] at h2
      exact h.same k h1 h2 (by omega)
    · rw [hlen, e1]; exact hhead
  · rw [tot_one, h.tot]
    simp only [hlen]
    omega
  · intro hlt2
    rcases hhead with e | e
    · omega
    · exact e

structure RKeep27 (B : Nat) (W : World) (q1 q2 : Nat) (p : Option Addr) (c : Nat) (xs : List Pt) : Prop where
  r1 : IsRow W q1 22 [.slice p xs.length c]
  r2 : IsRow W q2 65 [.func (.func 27) #[] #[]]
  
  v : View W p c xs
  b1 : q1 < B
  b2 : q2 < B
  
  lp : ∀ (i : Nat) (x : Pt), xs[i]? = some x → ∃ b off, p = some ⟨b, off, none⟩ ∧ b < B
  le : B ≤ W.heap.size

theorem RKeep27.low {B : Nat} {W W' : World} {q1 q2 : Nat} {p : Option Addr} {c : Nat} {xs : List Pt} (h : RKeep27 B W q1 q2 p c xs) {X : List Nat} (l : Low X B W W') (hq : ∀ k, k ∈ [q1, q2] → k ∉ X)
    (hpx : 0 < xs.length → ∀ b off, p = some ⟨b, off, none⟩ → b ∉ X) : RKeep27 B W' q1 q2 p c xs := by
  exact ⟨l.row h.r1 h.b1 (hq _ (by simp)), l.row h.r2 h.b2 (hq _ (by simp)), h.v.low l (fun h0 b off e => by
    obtain ⟨b', off', e2, hb⟩ := h.lp 0 _ (List.getElem?_eq_getElem h0)
    rw [e] at e2
    cases e2
    exact ⟨hb, hpx h0 b off e⟩), h.b1, h.b2, h.lp, Nat.le_trans h.le l.size⟩

set_option maxRecDepth 100000 in
set_option maxHeartbeats 1000000 in
theorem runs_iter27 (n' : Nat) (w : World) (q1 q2 : Nat) (p : Option Addr) (c : Nat) (xs : List Pt) (X : List Nat) (hv : View w p c xs) (hn : xs.length ≤ 1048576) (h1 : IsRow w q1 22 [.slice p xs.length c])
    (h2 : IsRow w q2 65 [.func (.func 27) #[] #[]]) (hq : ∀ k, k ∈ [q1, q2] → k ∉ X) (hpx : 0 < xs.length → ∀ b off k, p = some ⟨b, off, k⟩ → b ∉ X) :
    Iter n' Try.prog 42 #[.pointer (some ⟨q1, 0, none⟩), .pointer (some ⟨q2, 0, none⟩)] (fun y : Value × List Pt => #[y.1]) [] X (RAdm sm27 xs w.heap.size) (fun ys => tot ys = xs.length) (fun _ => True) w := by
  intro l B J Jx W hW hB hJ hJx hY h0
  have hk0 : RKeep27 w.heap.size W q1 q2 p c xs := ⟨h1.upd hW (by simp), h2.upd hW (by simp), hv.upd hW, h1.lt, h2.lt, (fun i x hi => by obtain ⟨b, off, e1, e2, _⟩ := hv.cells i x hi; exact ⟨b, off, e1, e2⟩), hW.size⟩
  have HY := Lib.hid hY
  have HJ := Lib.hid hJ
  have HQ := Lib.hid hq
  have HPX := Lib.hid hpx
  have HK0 := Lib.hid hk0
  clear hY hJ hJx h1 h2 hv hW hB hq hpx hk0
  refine callsIn_wide.2 ?_
  show Calls Try.prog 42 #[.func (.yield l) #[] #[], .pointer (some ⟨q1, 0, none⟩), .pointer (some ⟨q2, 0, none⟩)] W _
  go_enter Try.func42, Try.ntmps42
  go_wp2_with fail
  go_loopw [4, 5] (fun u4 u5 wr => ∃ (f i : Nat) (pre : List (Value × List Pt)), u4 = .int .i64 f ∧ u5 = .int .i64 i ∧ RInv sm27 xs f i pre ∧ J pre wr ∧ RKeep27 w.heap.size wr q1 q2 p c xs) (fun _ u5 _ => xs.length + 1 - (intOf u5).toNat)
  case atStart => exact ⟨0, 1, [], rfl, rfl, RInv.start _ xs, h0, HK0.out⟩
  case round =>
    clear h0 HK0
    obtain ⟨f, i, pre, rfl, rfl, hinv, hj, hk⟩ := hrel
    have hfi := hinv.lt
    have hile := hinv.le
    have HI := Lib.hid hinv
    clear hinv
    have c1 := hk.r1.cell 0
    have c2 := hk.r2.cell 0
    skip
    simp only [List.getElem?_cons_zero] at c1 c2
    by_cases hil : i ≤ xs.length
    · have hxl : 0 < xs.length := by omega
      obtain ⟨x0, hx0⟩ : ∃ a, xs[0]? = some a := ⟨xs[0], List.getElem?_eq_getElem hxl⟩
      obtain ⟨bp, op, rfl, hbp⟩ := hk.lp 0 x0 hx0
      have hvc := hk.v
      have hcle := hvc.le
      have hfc : ¬ c = f := by omega
      have a1 : (f : Int) ≤ (i : Int) := by omega
      have a2 : (i : Int) ≤ (c : Int) := by omega
      have a3 : (0 : Int) ≤ (i : Int) := by omega
      clear hx0
      have HV := Lib.hid hvc
      have HK := Lib.hid hk
      clear hvc hk
      by_cases hie : i < xs.length
      · obtain ⟨j, rfl⟩ : ∃ j, i = j + 1 := ⟨i - 1, by omega⟩
        obtain ⟨a, ha⟩ : ∃ a, xs[j]? = some a := ⟨xs[j]'(by omega), List.getElem?_eq_getElem _⟩
        obtain ⟨b, hb⟩ : ∃ a, xs[j + 1]? = some a := ⟨xs[j + 1], List.getElem?_eq_getElem hie⟩
        obtain ⟨bx, ox, hbx, hbl, hcx⟩ := HV.out.cells j a ha
        cases hbx
        obtain ⟨ca, ca'⟩ := hcx j a ha
        obtain ⟨cb, cb'⟩ := hcx (j + 1) b hb
        have hz : (0 : Int) ≤ (j : Int) + 1 := by omega
        have hz0 : (0 : Int) ≤ (j : Int) := by omega
        have hw0 : IntKind.i64.wrap (j : Int) = (j : Int) := by rw [IntKind.wrap_i64]; omega
        have hw1 : IntKind.i64.wrap ((j : Int) + 1 - 1) = (j : Int) := by rw [IntKind.wrap_i64]; omega
        have hz1 : (j : Int) < (xs.length : Int) := by omega
        have hz2 : (j : Int) + 1 < (xs.length : Int) := by omega
        have hlt3 : decide ((j : Int) + 1 < (xs.length : Int)) = true := decide_eq_true (by omega)
        have hq1l := HK.out.r1.lt
        have hq2l := HK.out.r2.lt
        skip
        by_cases heq : sm27 a b = true
        · have ht := heq
          have HTT := Lib.hid ht
          have hnx := HI.out.more hie ha hb heq
          have HNX := Lib.hid hnx
          clear hnx heq ht ha hb hcx
          go_wp2_with fail
          go_region_held3 (fun w' => w'.cell? ⟨q1, 0, none⟩ = some (.slice (some ⟨bp, op, none⟩) xs.length c) ∧ w'.cell? ⟨q2, 0, none⟩ = some (.func (.func 27) #[] #[]) ∧ w'.cell? ⟨bp, op + j * 2, none⟩ = some (Enc.c0 a) ∧ w'.cell? ⟨bp, op + j * 2 + 1, none⟩ = some (Enc.c1 a) ∧ w'.cell? ⟨bp, op + (j + 1) * 2, none⟩ = some (Enc.c0 b) ∧ w'.cell? ⟨bp, op + (j + 1) * 2 + 1, none⟩ = some (Enc.c1 b)) (first | exact ⟨c1, c2, ca, ca', cb, cb'⟩ | exact S9)
            (first | (go_at_call 27; refine (same27 a b wr.drew).mono ?_; rintro e w9 ⟨rfl, U9⟩; rw [HTT.out]; have S9 : w9.cell? ⟨q1, 0, none⟩ = some (.slice (some ⟨bp, op, none⟩) xs.length c) ∧ w9.cell? ⟨q2, 0, none⟩ = some (.func (.func 27) #[] #[]) ∧ w9.cell? ⟨bp, op + j * 2, none⟩ = some (Enc.c0 a) ∧ w9.cell? ⟨bp, op + j * 2 + 1, none⟩ = some (Enc.c1 a) ∧ w9.cell? ⟨bp, op + (j + 1) * 2, none⟩ = some (Enc.c0 b) ∧ w9.cell? ⟨bp, op + (j + 1) * 2 + 1, none⟩ = some (Enc.c1 b) := ⟨(U9.cell (p := ⟨q1, 0, none⟩) hq1l (by simp)).trans c1, (U9.cell (p := ⟨q2, 0, none⟩) hq2l (by simp)).trans c2, (U9.cell (p := ⟨bp, op + j * 2, none⟩) hbl (by simp)).trans ca, (U9.cell (p := ⟨bp, op + j * 2 + 1, none⟩) hbl (by simp)).trans ca', (U9.cell (p := ⟨bp, op + (j + 1) * 2, none⟩) hbl (by simp)).trans cb, (U9.cell (p := ⟨bp, op + (j + 1) * 2 + 1, none⟩) hbl (by simp)).trans cb'⟩))
          have UR : Upd [] wr w9 := ((Upd.refl [] wr).drew).trans U9
          have hj2 : J pre w9 := HJ.out _ _ _ hj UR
          have hk2 := HK.out.low (UR.toF w.heap.size).low (X := []) (by simp) (by simp)
          clear hj HK c1 c2 ca cb ca' cb' HV UR U9 S9 hq1l hq2l hbl 
          go_wp2_with fail
          go_roundw
          case rel => exact ⟨f, j + 1 + 1, pre, rfl, by go_num, HNX.out, hj2, hk2⟩
          case measure => simp [intOf]; omega
        · have ht : sm27 a b = false := by simpa using heq
          have HTT := Lib.hid ht
          have hnx := HI.out.cut (.inr ⟨a, b, ha, hb, ht⟩)
          have HNX := Lib.hid hnx
          clear hnx heq ht ha hb hcx
          go_wp2_with fail
          go_region_held3 (fun w' => w'.cell? ⟨q1, 0, none⟩ = some (.slice (some ⟨bp, op, none⟩) xs.length c) ∧ w'.cell? ⟨q2, 0, none⟩ = some (.func (.func 27) #[] #[]) ∧ w'.cell? ⟨bp, op + j * 2, none⟩ = some (Enc.c0 a) ∧ w'.cell? ⟨bp, op + j * 2 + 1, none⟩ = some (Enc.c1 a) ∧ w'.cell? ⟨bp, op + (j + 1) * 2, none⟩ = some (Enc.c0 b) ∧ w'.cell? ⟨bp, op + (j + 1) * 2 + 1, none⟩ = some (Enc.c1 b)) (first | exact ⟨c1, c2, ca, ca', cb, cb'⟩ | exact S9)
            (first | (go_at_call 27; refine (same27 a b wr.drew).mono ?_; rintro e w9 ⟨rfl, U9⟩; rw [HTT.out]; have S9 : w9.cell? ⟨q1, 0, none⟩ = some (.slice (some ⟨bp, op, none⟩) xs.length c) ∧ w9.cell? ⟨q2, 0, none⟩ = some (.func (.func 27) #[] #[]) ∧ w9.cell? ⟨bp, op + j * 2, none⟩ = some (Enc.c0 a) ∧ w9.cell? ⟨bp, op + j * 2 + 1, none⟩ = some (Enc.c1 a) ∧ w9.cell? ⟨bp, op + (j + 1) * 2, none⟩ = some (Enc.c0 b) ∧ w9.cell? ⟨bp, op + (j + 1) * 2 + 1, none⟩ = some (Enc.c1 b) := ⟨(U9.cell (p := ⟨q1, 0, none⟩) hq1l (by simp)).trans c1, (U9.cell (p := ⟨q2, 0, none⟩) hq2l (by simp)).trans c2, (U9.cell (p := ⟨bp, op + j * 2, none⟩) hbl (by simp)).trans ca, (U9.cell (p := ⟨bp, op + j * 2 + 1, none⟩) hbl (by simp)).trans ca', (U9.cell (p := ⟨bp, op + (j + 1) * 2, none⟩) hbl (by simp)).trans cb, (U9.cell (p := ⟨bp, op + (j + 1) * 2 + 1, none⟩) hbl (by simp)).trans cb'⟩))
          have UR : Upd [] wr w9 := ((Upd.refl [] wr).drew).trans U9
          have hj2 : J pre w9 := HJ.out _ _ _ hj UR
          have hk2 := HK.out.low (UR.toF w.heap.size).low (X := []) (by simp) (by simp)
          clear hj HK c1 c2 HV ca cb ca' cb' UR U9 S9 hq1l hq2l hbl
          generalize w9 = wr2 at hj2 hk2 ⊢
          have c1 := hk2.r1.cell 0
          simp only [List.getElem?_cons_zero] at c1
          have hvw := hk2.v.slice2 (lo := f) (hi := (j + 1)) (k := c - f) (p := some ⟨bp, op + f * 2, none⟩) (by omega) (by omega) (.inl ⟨hfc, rfl⟩) rfl
          have HVW := Lib.hid hvw
          have HK := Lib.hid hk2
          clear hvw hk2
          rename_i K2 kk2 K1 kk1 K0 kk0 hx9
          refine kk0 _ _ (wp_cond_false rfl (wp_skip ?_))
          refine kk1 _ _ ?_
          refine (wpIn_wide (n := n')).1 ?_
          gi_wp2_with (refine ⟨trivial, fun hh => by simp [Fence.wide] at hh, ?_⟩; refine CallsIn.mono (callsIn_wide.2 (clone_any' _ _ _ ((xs.drop f).take (j + 1 - f)) _ HVW.out (by rw [List.length_take, List.length_drop]; omega) (by rw [List.length_take, List.length_drop]; omega))) ?_; rintro e w2 ⟨⟨v, rfl, hov⟩, U2⟩)
          have hj3 : J pre w2 := HJ.out _ _ _ hj2 U2
          have hk3 := HK.out.low (U2.toF w.heap.size).low (X := []) (by simp) (by simp)
          have hadm : RAdm sm27 xs w.heap.size pre (v, (xs.drop f).take (j + 1 - f)) w2 := ⟨HNX.out.1, hov.mono HK.out.le⟩
          obtain ⟨fn, tmps, assign, body, hy, hR⟩ := HY.out pre (v, (xs.drop f).take (j + 1 - f)) w2 hj3 hadm
          dsimp only at hy hR
          have HR := Lib.hid hR
          have HK3 := Lib.hid hk3
          clear hR hadm hj2 HK hov U2 c1 hk3 HVW
          rw [hy]
          refine ⟨fun hh => by simp [Fence.wide] at hh, HR.out.mono ?_⟩
          rintro e W3 (⟨rfl, hj4, hl4⟩ | ⟨rfl, hx4⟩)
          · have hk4 := HK3.out.low hl4 HQ.out (fun h0 b off e => HPX.out h0 b off none e)
            clear hy hj3 hl4
            gi_wp2
            go_wp2
            go_roundw
            case rel => exact ⟨(j + 1), (j + 1) + 1, _, rfl, by go_num, HNX.out.2 _ , hj4, hk4⟩
            case measure => simp [intOf]; omega
          · clear hy hj3 HK3
            gi_wp2
            refine bodyPost_ret (results_none rfl _ _ _) rfl ?_
            exact ⟨⟨_, rfl⟩, .inr ⟨_, trivial, hx4⟩⟩
      · have hie2 : i = xs.length := by omega
        have hnx := HI.out.cut (.inl hie2)
        have HNX := Lib.hid hnx
        clear hnx hie2
        go_wp2_with fail
        go_quiet (fail)
        have hj2 : J pre (wr.drewN nq) := HJ.out _ _ _ hj ((Upd.refl [] wr).drewN nq)
        have hk2 := HK.out.low (((Upd.refl [] wr).drewN nq).toF w.heap.size).low (X := []) (by simp) (by simp)
        clear hj HK c1 c2 HV
        generalize wr.drewN nq = wr2 at hj2 hk2 ⊢
        have c1 := hk2.r1.cell 0
        simp only [List.getElem?_cons_zero] at c1
        have hvw := hk2.v.slice2 (lo := f) (hi := i) (k := c - f) (p := some ⟨bp, op + f * 2, none⟩) (by omega) (by omega) (.inl ⟨hfc, rfl⟩) rfl
        have HVW := Lib.hid hvw
        have HK := Lib.hid hk2
        clear hvw hk2
        rename_i K2 kk2 K1 kk1 K0 kk0
        refine kk0 _ _ (wp_cond_false rfl (wp_skip ?_))
        refine kk1 _ _ ?_
        refine (wpIn_wide (n := n')).1 ?_
        gi_wp2_with (refine ⟨trivial, fun hh => by simp [Fence.wide] at hh, ?_⟩; refine CallsIn.mono (callsIn_wide.2 (clone_any' _ _ _ ((xs.drop f).take (i - f)) _ HVW.out (by rw [List.length_take, List.length_drop]; omega) (by rw [List.length_take, List.length_drop]; omega))) ?_; rintro e w2 ⟨⟨v, rfl, hov⟩, U2⟩)
        have hj3 : J pre w2 := HJ.out _ _ _ hj2 U2
        have hk3 := HK.out.low (U2.toF w.heap.size).low (X := []) (by simp) (by simp)
        have hadm : RAdm sm27 xs w.heap.size pre (v, (xs.drop f).take (i - f)) w2 := ⟨HNX.out.1, hov.mono HK.out.le⟩
        obtain ⟨fn, tmps, assign, body, hy, hR⟩ := HY.out pre (v, (xs.drop f).take (i - f)) w2 hj3 hadm
        dsimp only at hy hR
        have HR := Lib.hid hR
        have HK3 := Lib.hid hk3
        clear hR hadm hj2 HK hov U2 c1 hk3 HVW
        rw [hy]
        refine ⟨fun hh => by simp [Fence.wide] at hh, HR.out.mono ?_⟩
        rintro e W3 (⟨rfl, hj4, hl4⟩ | ⟨rfl, hx4⟩)
        · have hk4 := HK3.out.low hl4 HQ.out (fun h0 b off e => HPX.out h0 b off none e)
          clear hy hj3 hl4
          gi_wp2
          go_wp2
          go_roundw
          case rel => exact ⟨i, i + 1, _, rfl, by go_num, HNX.out.2 _ , hj4, hk4⟩
          case measure => simp [intOf]; omega
        · clear hy hj3 HK3
          gi_wp2
          refine bodyPost_ret (results_none rfl _ _ _) rfl ?_
          exact ⟨⟨_, rfl⟩, .inr ⟨_, trivial, hx4⟩⟩
    · go_wp2_with fail
      go_end0
      exact ⟨⟨_, rfl⟩, .inl ⟨pre, HI.out.done (by omega), hj⟩⟩

structure RKeep40 (B : Nat) (W : World) (q1 q2 q3 : Nat) (p : Option Addr) (c : Nat) (xs : List Pt) : Prop where
  r1 : IsRow W q1 22 [.slice p xs.length c]
  r2 : IsRow W q2 65 [.func (.func 40) #[] #[.pointer (some ⟨q3, 0, none⟩)]]
  r3 : IsRow W q3 57 [.func (.func 23) #[] #[]]
  v : View W p c xs
  b1 : q1 < B
  b2 : q2 < B
  b3 : q3 < B
  lp : ∀ (i : Nat) (x : Pt), xs[i]? = some x → ∃ b off, p = some ⟨b, off, none⟩ ∧ b < B
  le : B ≤ W.heap.size

theorem RKeep40.low {B : Nat} {W W' : World} {q1 q2 q3 : Nat} {p : Option Addr} {c : Nat} {xs : List Pt} (h : RKeep40 B W q1 q2 q3 p c xs) {X : List Nat} (l : Low X B W W') (hq : ∀ k, k ∈ [q1, q2, q3] → k ∉ X)
    (hpx : 0 < xs.length → ∀ b off, p = some ⟨b, off, none⟩ → b ∉ X) : RKeep40 B W' q1 q2 q3 p c xs := by
  exact ⟨l.row h.r1 h.b1 (hq _ (by simp)), l.row h.r2 h.b2 (hq _ (by simp)), l.row h.r3 h.b3 (hq _ (by simp)), h.v.low l (fun h0 b off e => by
    obtain ⟨b', off', e2, hb⟩ := h.lp 0 _ (List.getElem?_eq_getElem h0)
    rw [e] at e2
    cases e2
    exact ⟨hb, hpx h0 b off e⟩), h.b1, h.b2, h.b3, h.lp, Nat.le_trans h.le l.size⟩

set_option maxRecDepth 100000 in
set_option maxHeartbeats 1000000 in
theorem runs_iter40 (n' : Nat) (w : World) (q1 q2 q3 : Nat) (p : Option Addr) (c : Nat) (xs : List Pt) (X : List Nat) (hv : View w p c xs) (hn : xs.length ≤ 1048576) (h1 : IsRow w q1 22 [.slice p xs.length c])
    (h2 : IsRow w q2 65 [.func (.func 40) #[] #[.pointer (some ⟨q3, 0, none⟩)]]) (h3 : IsRow w q3 57 [.func (.func 23) #[] #[]]) (hq : ∀ k, k ∈ [q1, q2, q3] → k ∉ X) (hpx : 0 < xs.length → ∀ b off k, p = some ⟨b, off, k⟩ → b ∉ X) :
    Iter n' Try.prog 42 #[.pointer (some ⟨q1, 0, none⟩), .pointer (some ⟨q2, 0, none⟩)] (fun y : Value × List Pt => #[y.1]) [] X (RAdm sm40 xs w.heap.size) (fun ys => tot ys = xs.length) (fun _ => True) w := by
  intro l B J Jx W hW hB hJ hJx hY h0
  have hk0 : RKeep40 w.heap.size W q1 q2 q3 p c xs := ⟨h1.upd hW (by simp), h2.upd hW (by simp), h3.upd hW (by simp), hv.upd hW, h1.lt, h2.lt, h3.lt, (fun i x hi => by obtain ⟨b, off, e1, e2, _⟩ := hv.cells i x hi; exact ⟨b, off, e1, e2⟩), hW.size⟩
  have HY := Lib.hid hY
  have HJ := Lib.hid hJ
  have HQ := Lib.hid hq
  have HPX := Lib.hid hpx
  have HK0 := Lib.hid hk0
  clear hY hJ hJx h1 h2 h3 hv hW hB hq hpx hk0
  refine callsIn_wide.2 ?_
  show Calls Try.prog 42 #[.func (.yield l) #[] #[], .pointer (some ⟨q1, 0, none⟩), .pointer (some ⟨q2, 0, none⟩)] W _
  go_enter Try.func42, Try.ntmps42
  go_wp2_with fail
  go_loopw [4, 5] (fun u4 u5 wr => ∃ (f i : Nat) (pre : List (Value × List Pt)), u4 = .int .i64 f ∧ u5 = .int .i64 i ∧ RInv sm40 xs f i pre ∧ J pre wr ∧ RKeep40 w.heap.size wr q1 q2 q3 p c xs) (fun _ u5 _ => xs.length + 1 - (intOf u5).toNat)
  case atStart => exact ⟨0, 1, [], rfl, rfl, RInv.start _ xs, h0, HK0.out⟩
  case round =>
    clear h0 HK0
    obtain ⟨f, i, pre, rfl, rfl, hinv, hj, hk⟩ := hrel
    have hfi := hinv.lt
    have hile := hinv.le
    have HI := Lib.hid hinv
    clear hinv
    have c1 := hk.r1.cell 0
    have c2 := hk.r2.cell 0
    have c3 := hk.r3.cell 0
    simp only [List.getElem?_cons_zero] at c1 c2 c3
    by_cases hil : i ≤ xs.length
    · have hxl : 0 < xs.length := by omega
      obtain ⟨x0, hx0⟩ : ∃ a, xs[0]? = some a := ⟨xs[0], List.getElem?_eq_getElem hxl⟩
      obtain ⟨bp, op, rfl, hbp⟩ := hk.lp 0 x0 hx0
      have hvc := hk.v
      have hcle := hvc.le
      have hfc : ¬ c = f := by omega
      have a1 : (f : Int) ≤ (i : Int) := by omega
      have a2 : (i : Int) ≤ (c : Int) := by omega
      have a3 : (0 : Int) ≤ (i : Int) := by omega
      clear hx0
      have HV := Lib.hid hvc
      have HK := Lib.hid hk
      clear hvc hk
      by_cases hie : i < xs.length
      · obtain ⟨j, rfl⟩ : ∃ j, i = j + 1 := ⟨i - 1, by omega⟩
        obtain ⟨a, ha⟩ : ∃ a, xs[j]? = some a := ⟨xs[j]'(by omega), List.getElem?_eq_getElem _⟩
        obtain ⟨b, hb⟩ : ∃ a, xs[j + 1]? = some a := ⟨xs[j + 1], List.getElem?_eq_getElem hie⟩
        obtain ⟨bx, ox, hbx, hbl, hcx⟩ := HV.out.cells j a ha
        cases hbx
        obtain ⟨ca, ca'⟩ := hcx j a ha
        obtain ⟨cb, cb'⟩ := hcx (j + 1) b hb
        have hz : (0 : Int) ≤ (j : Int) + 1 := by omega
        have hz0 : (0 : Int) ≤ (j : Int) := by omega
        have hw0 : IntKind.i64.wrap (j : Int) = (j : Int) := by rw [IntKind.wrap_i64]; omega
        have hw1 : IntKind.i64.wrap ((j : Int) + 1 - 1) = (j : Int) := by rw [IntKind.wrap_i64]; omega
        have hz1 : (j : Int) < (xs.length : Int) := by omega
        have hz2 : (j : Int) + 1 < (xs.length : Int) := by omega
        have hlt3 : decide ((j : Int) + 1 < (xs.length : Int)) = true := decide_eq_true (by omega)
        have hq1l := HK.out.r1.lt
        have hq2l := HK.out.r2.lt
        have hq3l := HK.out.r3.lt
        by_cases heq : sm40 a b = true
        · have ht := heq
          have HTT := Lib.hid ht
          have hnx := HI.out.more hie ha hb heq
          have HNX := Lib.hid hnx
          clear hnx heq ht ha hb hcx
          go_wp2_with fail
          go_region_held3 (fun w' => w'.cell? ⟨q1, 0, none⟩ = some (.slice (some ⟨bp, op, none⟩) xs.length c) ∧ w'.cell? ⟨q2, 0, none⟩ = some (.func (.func 40) #[] #[.pointer (some ⟨q3, 0, none⟩)]) ∧ w'.cell? ⟨bp, op + j * 2, none⟩ = some (Enc.c0 a) ∧ w'.cell? ⟨bp, op + j * 2 + 1, none⟩ = some (Enc.c1 a) ∧ w'.cell? ⟨bp, op + (j + 1) * 2, none⟩ = some (Enc.c0 b) ∧ w'.cell? ⟨bp, op + (j + 1) * 2 + 1, none⟩ = some (Enc.c1 b)) (first | exact ⟨c1, c2, ca, ca', cb, cb'⟩ | exact S9)
            (first | (go_at_call 40; refine (same40 a b q3 wr.drew c3).mono ?_; rintro e w9 ⟨rfl, U9⟩; rw [HTT.out]; have S9 : w9.cell? ⟨q1, 0, none⟩ = some (.slice (some ⟨bp, op, none⟩) xs.length c) ∧ w9.cell? ⟨q2, 0, none⟩ = some (.func (.func 40) #[] #[.pointer (some ⟨q3, 0, none⟩)]) ∧ w9.cell? ⟨bp, op + j * 2, none⟩ = some (Enc.c0 a) ∧ w9.cell? ⟨bp, op + j * 2 + 1, none⟩ = some (Enc.c1 a) ∧ w9.cell? ⟨bp, op + (j + 1) * 2, none⟩ = some (Enc.c0 b) ∧ w9.cell? ⟨bp, op + (j + 1) * 2 + 1, none⟩ = some (Enc.c1 b) := ⟨(U9.cell (p := ⟨q1, 0, none⟩) hq1l (by simp)).trans c1, (U9.cell (p := ⟨q2, 0, none⟩) hq2l (by simp)).trans c2, (U9.cell (p := ⟨bp, op + j * 2, none⟩) hbl (by simp)).trans ca, (U9.cell (p := ⟨bp, op + j * 2 + 1, none⟩) hbl (by simp)).trans ca', (U9.cell (p := ⟨bp, op + (j + 1) * 2, none⟩) hbl (by simp)).trans cb, (U9.cell (p := ⟨bp, op + (j + 1) * 2 + 1, none⟩) hbl (by simp)).trans cb'⟩))
          have UR : Upd [] wr w9 := ((Upd.refl [] wr).drew).trans U9
          have hj2 : J pre w9 := HJ.out _ _ _ hj UR
          have hk2 := HK.out.low (UR.toF w.heap.size).low (X := []) (by simp) (by simp)
          clear hj HK c1 c2 ca cb ca' cb' HV UR U9 S9 hq1l hq2l hq3l hbl  c3
          go_wp2_with fail
          go_roundw
          case rel => exact ⟨f, j + 1 + 1, pre, rfl, by go_num, HNX.out, hj2, hk2⟩
          case measure => simp [intOf]; omega
        · have ht : sm40 a b = false := by simpa using heq
          have HTT := Lib.hid ht
          have hnx := HI.out.cut (.inr ⟨a, b, ha, hb, ht⟩)
          have HNX := Lib.hid hnx
          clear hnx heq ht ha hb hcx
          go_wp2_with fail
          go_region_held3 (fun w' => w'.cell? ⟨q1, 0, none⟩ = some (.slice (some ⟨bp, op, none⟩) xs.length c) ∧ w'.cell? ⟨q2, 0, none⟩ = some (.func (.func 40) #[] #[.pointer (some ⟨q3, 0, none⟩)]) ∧ w'.cell? ⟨bp, op + j * 2, none⟩ = some (Enc.c0 a) ∧ w'.cell? ⟨bp, op + j * 2 + 1, none⟩ = some (Enc.c1 a) ∧ w'.cell? ⟨bp, op + (j + 1) * 2, none⟩ = some (Enc.c0 b) ∧ w'.cell? ⟨bp, op + (j + 1) * 2 + 1, none⟩ = some (Enc.c1 b)) (first | exact ⟨c1, c2, ca, ca', cb, cb'⟩ | exact S9)
            (first | (go_at_call 40; refine (same40 a b q3 wr.drew c3).mono ?_; rintro e w9 ⟨rfl, U9⟩; rw [HTT.out]; have S9 : w9.cell? ⟨q1, 0, none⟩ = some (.slice (some ⟨bp, op, none⟩) xs.length c) ∧ w9.cell? ⟨q2, 0, none⟩ = some (.func (.func 40) #[] #[.pointer (some ⟨q3, 0, none⟩)]) ∧ w9.cell? ⟨bp, op + j * 2, none⟩ = some (Enc.c0 a) ∧ w9.cell? ⟨bp, op + j * 2 + 1, none⟩ = some (Enc.c1 a) ∧ w9.cell? ⟨bp, op + (j + 1) * 2, none⟩ = some (Enc.c0 b) ∧ w9.cell? ⟨bp, op + (j + 1) * 2 + 1, none⟩ = some (Enc.c1 b) := ⟨(U9.cell (p := ⟨q1, 0, none⟩) hq1l (by simp)).trans c1, (U9.cell (p := ⟨q2, 0, none⟩) hq2l (by simp)).trans c2, (U9.cell (p := ⟨bp, op + j * 2, none⟩) hbl (by simp)).trans ca, (U9.cell (p := ⟨bp, op + j * 2 + 1, none⟩) hbl (by simp)).trans ca', (U9.cell (p := ⟨bp, op + (j + 1) * 2, none⟩) hbl (by simp)).trans cb, (U9.cell (p := ⟨bp, op + (j + 1) * 2 + 1, none⟩) hbl (by simp)).trans cb'⟩))
          have UR : Upd [] wr w9 := ((Upd.refl [] wr).drew).trans U9
          have hj2 : J pre w9 := HJ.out _ _ _ hj UR
          have hk2 := HK.out.low (UR.toF w.heap.size).low (X := []) (by simp) (by simp)
          clear hj HK c1 c2 HV c3 ca cb ca' cb' UR U9 S9 hq1l hq2l hq3l hbl
          generalize w9 = wr2 at hj2 hk2 ⊢
          have c1 := hk2.r1.cell 0
          simp only [List.getElem?_cons_zero] at c1
          have hvw := hk2.v.slice2 (lo := f) (hi := (j + 1)) (k := c - f) (p := some ⟨bp, op + f * 2, none⟩) (by omega) (by omega) (.inl ⟨hfc, rfl⟩) rfl
          have HVW := Lib.hid hvw
          have HK := Lib.hid hk2
          clear hvw hk2
          rename_i K2 kk2 K1 kk1 K0 kk0 hx9
          refine kk0 _ _ (wp_cond_false rfl (wp_skip ?_))
          refine kk1 _ _ ?_
          refine (wpIn_wide (n := n')).1 ?_
          gi_wp2_with (refine ⟨trivial, fun hh => by simp [Fence.wide] at hh, ?_⟩; refine CallsIn.mono (callsIn_wide.2 (clone_any' _ _ _ ((xs.drop f).take (j + 1 - f)) _ HVW.out (by rw [List.length_take, List.length_drop]; omega) (by rw [List.length_take, List.length_drop]; omega))) ?_; rintro e w2 ⟨⟨v, rfl, hov⟩, U2⟩)
          have hj3 : J pre w2 := HJ.out _ _ _ hj2 U2
          have hk3 := HK.out.low (U2.toF w.heap.size).low (X := []) (by simp) (by simp)
          have hadm : RAdm sm40 xs w.heap.size pre (v, (xs.drop f).take (j + 1 - f)) w2 := ⟨HNX.out.1, hov.mono HK.out.le⟩
          obtain ⟨fn, tmps, assign, body, hy, hR⟩ := HY.out pre (v, (xs.drop f).take (j + 1 - f)) w2 hj3 hadm
          dsimp only at hy hR
          have HR := Lib.hid hR
          have HK3 := Lib.hid hk3
          clear hR hadm hj2 HK hov U2 c1 hk3 HVW
          rw [hy]
          refine ⟨fun hh => by simp [Fence.wide] at hh, HR.out.mono ?_⟩
          rintro e W3 (⟨rfl, hj4, hl4⟩ | ⟨rfl, hx4⟩)
          · have hk4 := HK3.out.low hl4 HQ.out (fun h0 b off e => HPX.out h0 b off none e)
            clear hy hj3 hl4
            gi_wp2
            go_wp2
            go_roundw
            case rel => exact ⟨(j + 1), (j + 1) + 1, _, rfl, by go_num, HNX.out.2 _ , hj4, hk4⟩
            case measure => simp [intOf]; omega
          · clear hy hj3 HK3
            gi_wp2
            refine bodyPost_ret (results_none rfl _ _ _) rfl ?_
            exact ⟨⟨_, rfl⟩, .inr ⟨_, trivial, hx4⟩⟩
      · have hie2 : i = xs.length := by omega
        have hnx := HI.out.cut (.inl hie2)
        have HNX := Lib.hid hnx
        clear hnx hie2
        go_wp2_with fail
        go_quiet (fail)
        have hj2 : J pre (wr.drewN nq) := HJ.out _ _ _ hj ((Upd.refl [] wr).drewN nq)
        have hk2 := HK.out.low (((Upd.refl [] wr).drewN nq).toF w.heap.size).low (X := []) (by simp) (by simp)
        clear hj HK c1 c2 HV c3
        generalize wr.drewN nq = wr2 at hj2 hk2 ⊢
        have c1 := hk2.r1.cell 0
        simp only [List.getElem?_cons_zero] at c1
        have hvw := hk2.v.slice2 (lo := f) (hi := i) (k := c - f) (p := some ⟨bp, op + f * 2, none⟩) (by omega) (by omega) (.inl ⟨hfc, rfl⟩) rfl
        have HVW := Lib.hid hvw
        have HK := Lib.hid hk2
        clear hvw hk2
        rename_i K2 kk2 K1 kk1 K0 kk0
        refine kk0 _ _ (wp_cond_false rfl (wp_skip ?_))
        refine kk1 _ _ ?_
        refine (wpIn_wide (n := n')).1 ?_
        gi_wp2_with (refine ⟨trivial, fun hh => by simp [Fence.wide] at hh, ?_⟩; refine CallsIn.mono (callsIn_wide.2 (clone_any' _ _ _ ((xs.drop f).take (i - f)) _ HVW.out (by rw [List.length_take, List.length_drop]; omega) (by rw [List.length_take, List.length_drop]; omega))) ?_; rintro e w2 ⟨⟨v, rfl, hov⟩, U2⟩)
        have hj3 : J pre w2 := HJ.out _ _ _ hj2 U2
        have hk3 := HK.out.low (U2.toF w.heap.size).low (X := []) (by simp) (by simp)
        have hadm : RAdm sm40 xs w.heap.size pre (v, (xs.drop f).take (i - f)) w2 := ⟨HNX.out.1, hov.mono HK.out.le⟩
        obtain ⟨fn, tmps, assign, body, hy, hR⟩ := HY.out pre (v, (xs.drop f).take (i - f)) w2 hj3 hadm
        dsimp only at hy hR
        have HR := Lib.hid hR
        have HK3 := Lib.hid hk3
        clear hR hadm hj2 HK hov U2 c1 hk3 HVW
        rw [hy]
        refine ⟨fun hh => by simp [Fence.wide] at hh, HR.out.mono ?_⟩
        rintro e W3 (⟨rfl, hj4, hl4⟩ | ⟨rfl, hx4⟩)
        · have hk4 := HK3.out.low hl4 HQ.out (fun h0 b off e => HPX.out h0 b off none e)
          clear hy hj3 hl4
          gi_wp2
          go_wp2
          go_roundw
          case rel => exact ⟨i, i + 1, _, rfl, by go_num, HNX.out.2 _ , hj4, hk4⟩
          case measure => simp [intOf]; omega
        · clear hy hj3 HK3
          gi_wp2
          refine bodyPost_ret (results_none rfl _ _ _) rfl ?_
          exact ⟨⟨_, rfl⟩, .inr ⟨_, trivial, hx4⟩⟩
    · go_wp2_with fail
      go_end0
      exact ⟨⟨_, rfl⟩, .inl ⟨pre, HI.out.done (by omega), hj⟩⟩

end Go.Proofs.Ytpoogkgekeocbaa
