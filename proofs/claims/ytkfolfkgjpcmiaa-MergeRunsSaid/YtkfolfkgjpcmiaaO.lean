/- The law Runs: the walk. -/
import Derived.Test.YtkfolfkgjpcmiaaM
namespace Go.Proofs.Ytkfolfkgjpcmiaa
open Go.RowKit
attribute [local go_sem] Oper.semAt_some

/-- Where the law's variables lie. -/
structure RBoxes (W : World) (bl bst bre bat bk : Nat) (v : Value) (stop : Int) (at' k : Nat) : Prop where
  l_ : IsRow W bl 22 [v]
  st : IsRow W bst 3 [.int .i64 stop]
  re : ∃ u, IsRow W bre 4 [.bool u]
  at_ : IsRow W bat 3 [.int .i64 at']
  k_ : IsRow W bk 3 [.int .i64 k]

theorem RBoxes.upd {W W' : World} {S bl bst bre bat bk v stop at' k} (h : RBoxes W bl bst bre bat bk v stop at' k) (u : Upd S W W') (hn : ∀ z, z ∈ [bl, bst, bre, bat, bk] → z ∉ S) : RBoxes W' bl bst bre bat bk v stop at' k := by
  obtain ⟨t, ht⟩ := h.re
  exact ⟨h.l_.upd u (hn _ (by simp)), h.st.upd u (hn _ (by simp)), ⟨t, ht.upd u (hn _ (by simp))⟩, h.at_.upd u (hn _ (by simp)), h.k_.upd u (hn _ (by simp))⟩

theorem RBoxes.keptF {W W' : World} {B bl bst bre bat bk v stop at' k} (h : RBoxes W bl bst bre bat bk v stop at' k) (u : UpdF [] B W W') : RBoxes W' bl bst bre bat bk v stop at' k := by
  obtain ⟨t, ht⟩ := h.re
  exact ⟨u.row h.l_ (by simp), u.row h.st (by simp), ⟨t, u.row ht (by simp)⟩, u.row h.at_ (by simp), u.row h.k_ (by simp)⟩

theorem equal_any' (p q : Option Addr) (c d n m : Nat) (xs ys : List Int) (w : World) (hx : View w p c xs) (hy : View w q d ys) (hn : xs.length ≤ 1048576) (h1 : xs.length = n) (h2 : ys.length = m) :
    Calls Try.prog 13 #[.slice p n c, .slice q m d] w fun e w' => e = .returned (.bool (eqL xs ys)) ∧ Upd [] w w' := by
  subst h1 h2
  exact equal_any p q c d xs ys w hx hy hn

theorem Own.spot2 {w : World} {B : Nat} {v : Value} {x : List Int} (h : Own w B v x) (hx : 0 < x.length) : ∃ g cap, v = .slice (some ⟨g, 0, none⟩) x.length cap ∧ x.length ≤ cap ∧ g < w.heap.size ∧ (∀ i a, x[i]? = some a → w.cell? ⟨g, i, none⟩ = some (.int .i64 a)) ∧ ∀ i, w.frozen? ⟨g, i, none⟩ = false := by
  obtain ⟨g, cap, rfl, _⟩ := h.first hx
  have hl := World.ownsRow.lt h g rfl
  obtain ⟨hle, hv⟩ := h.view'
  refine ⟨g, cap, rfl, hv.le, hl.2, fun i a hi => ?_, fun i => h.free i⟩
  have hil := (List.getElem?_eq_some_iff.1 hi).1
  rw [World.ownsRow.cellAt h i (by omega), ints_at hi]

theorem Lows.trans {X : List Nat} {B : Nat} {a b c : World} (h : Lows X B a b) (k : Lows X B b c) : Lows X B a c := by
  refine ⟨h.toLow.trans k.toLow, fun i hb hi hn => ?_⟩
  have h1 := h.rest i hb hi hn
  exact (k.rest i hb (Nat.lt_of_lt_of_le hi h.toLow.size) (by rw [h1]; exact hn)).trans h1

theorem run_equalIn_func_nil {P : Program} (w : World) (d : Nat) (t : TypeId) (f : Fn) (x y : Array Value) {a b : Array TypeId} {c : Bool} (h : P.underlying t = some (.func a b c)) : (Op.equalIn (d + 1) t (.func f x y) .nilFunc).run P w = .ok false w := by
  simp [Op.equalIn, run_underlying h]
theorem seq_nonnil (f : Fn) (x y : Array Value) (w : World) : (binOp .neq 32 (.func f x y) .nilFunc).run Try.prog w = .ok (.bool true) w := by
  have h : Try.prog.underlying 32 = some (.func #[29] #[] false) := by kernel_rfl
  simp only [binOp]
  simp [Op.equal, Op.maxDepth, run_equalIn_func_nil w 9999 32 f x y h]

set_option maxRecDepth 100000 in
set_option maxHeartbeats 1000000 in
theorem runs_all (v : Value) (stop : Int) (xs : List Int) (w : World) (hx : Lst w v xs) : Calls Try.prog 5 #[v, .int .i64 stop] w fun e w' => e = .returned (.bool true) ∧ Upd [] w w' := by
  obtain ⟨p, c, rfl, hv⟩ := hx
  by_cases hl : 150 < xs.length
  · go_enter Try.func5, Try.ntmps5
    go_wp2_with fail
    have rb := IsRow.new ((w.alloc (.cells #[.slice p xs.length c] 22)).alloc (.cells #[.int .i64 stop] 3)) [.bool false] 4
    have U1 : Upd [] w (((w.alloc (.cells #[.slice p xs.length c] 22)).alloc (.cells #[.int .i64 stop] 3)).alloc (.cells #[.bool false] 4)) := (((Upd.refl [] w).alloc _).alloc _).alloc _
    simp only [World.size_alloc] at rb
    generalize ((w.alloc (.cells #[.slice p xs.length c] 22)).alloc (.cells #[.int .i64 stop] 3)).alloc (.cells #[.bool false] 4) = w1 at rb U1 ⊢
    refine (awake_any _).mono ?_
    rintro e w9 ⟨rfl, U9⟩
    have r9 := rb.upd U9 (by simp)
    have c9 := r9.cell 0
    have f9 := r9.free 0
    have c10 := (r9.setCell_same 0 (.bool true)).cell 0
    simp only [List.getElem?_cons_zero, List.set_cons_zero] at c9 c10
    have U10 := (U1.trans U9).setCell_new (p := ⟨w.heap.size + 1 + 1, 0, none⟩) (by show w.heap.size ≤ w.heap.size + 1 + 1; omega) (.bool true)
    clear rb r9 U1 U9
    go_wp2_with fail
    exact bodyPost_ret (v := .bool true) (by simp [results, Try.results5, go_sem, c10]) rfl ⟨rfl, U10⟩
  · have hn : xs.length ≤ 150 := by omega
    have HV := Lib.hid hv
    clear hv
    refine (callsIn_wide (n := 3)).1 ?_
    refine callsIn_of_wp_marks Try.func5 rfl trivial ?_ rfl
    refine wpIn_wide.2 ?_
    simp only [Try.ntmps5, List.size_toArray, List.length_cons, List.length_nil, Nat.reduceAdd, Nat.reduceSub, Array.replicate_succ, Array.replicate_zero, List.push_toArray, List.append_toArray, List.nil_append, List.cons_append]
    go_wp2_with fail
    obtain ⟨bl, hbl⟩ : ∃ z, z = w.heap.size := ⟨_, rfl⟩
    obtain ⟨bst, hbst⟩ : ∃ z, z = w.heap.size + 1 := ⟨_, rfl⟩
    obtain ⟨bre, hbre⟩ : ∃ z, z = w.heap.size + 1 + 1 := ⟨_, rfl⟩
    obtain ⟨bat, hbat⟩ : ∃ z, z = w.heap.size + 1 + 1 + 1 := ⟨_, rfl⟩
    obtain ⟨bk, hbk⟩ : ∃ z, z = w.heap.size + 1 + 1 + 1 + 1 := ⟨_, rfl⟩
    have rl := ((((IsRow.new w [.slice p xs.length c] 22).alloc (.cells #[.int .i64 stop] 3)).alloc (.cells #[.bool false] 4)).alloc (.cells #[.int .i64 0] 3)).alloc (.cells #[.int .i64 0] 3)
    have rst := (((IsRow.new (w.alloc (.cells #[.slice p xs.length c] 22)) [.int .i64 stop] 3).alloc (.cells #[.bool false] 4)).alloc (.cells #[.int .i64 0] 3)).alloc (.cells #[.int .i64 0] 3)
    have rre := ((IsRow.new ((w.alloc (.cells #[.slice p xs.length c] 22)).alloc (.cells #[.int .i64 stop] 3)) [.bool false] 4).alloc (.cells #[.int .i64 0] 3)).alloc (.cells #[.int .i64 0] 3)
    have rat := (IsRow.new (((w.alloc (.cells #[.slice p xs.length c] 22)).alloc (.cells #[.int .i64 stop] 3)).alloc (.cells #[.bool false] 4)) [.int .i64 0] 3).alloc (.cells #[.int .i64 0] 3)
    have rk := IsRow.new ((((w.alloc (.cells #[.slice p xs.length c] 22)).alloc (.cells #[.int .i64 stop] 3)).alloc (.cells #[.bool false] 4)).alloc (.cells #[.int .i64 0] 3)) [.int .i64 0] 3
    have U1 : Upd [] w (((((w.alloc (.cells #[.slice p xs.length c] 22)).alloc (.cells #[.int .i64 stop] 3)).alloc (.cells #[.bool false] 4)).alloc (.cells #[.int .i64 0] 3)).alloc (.cells #[.int .i64 0] 3)) := (((((Upd.refl [] w).alloc _).alloc _).alloc _).alloc _).alloc _
    have hz1 : bk + 1 = (((((w.alloc (.cells #[.slice p xs.length c] 22)).alloc (.cells #[.int .i64 stop] 3)).alloc (.cells #[.bool false] 4)).alloc (.cells #[.int .i64 0] 3)).alloc (.cells #[.int .i64 0] 3)).heap.size := by rw [hbk]; simp
    simp only [World.size_alloc] at rst rre rat rk
    rw [← hbk] at rk ⊢
    rw [← hbat] at rat ⊢
    rw [← hbre] at rre ⊢
    rw [← hbst] at rst ⊢
    rw [← hbl] at rl ⊢
    generalize ((((w.alloc (.cells #[.slice p xs.length c] 22)).alloc (.cells #[.int .i64 stop] 3)).alloc (.cells #[.bool false] 4)).alloc (.cells #[.int .i64 0] 3)).alloc (.cells #[.int .i64 0] 3) = w1 at rl rst rre rat rk U1 hz1 ⊢
    have hbs : bst = bl + 1 ∧ bre = bl + 2 ∧ bat = bl + 3 ∧ bk = bl + 4 := by omega
    have HBL := Lib.hid hbl
    have HBS := Lib.hid hbs
    clear hbl hbst hbre hbat hbk hbs
    refine (runs_any _ _ _ _ _ _ _).mono ?_
    rintro e W4 ⟨rfl, rfl⟩
    obtain ⟨q1, hq1⟩ : ∃ z, z = w1.heap.size := ⟨_, rfl⟩
    have r1 := (IsRow.new w1 [.slice p xs.length c] 22).alloc (.cells #[.func (.func 17) #[] #[]] 34)
    have r2 := IsRow.new (w1.alloc (.cells #[.slice p xs.length c] 22)) [.func (.func 17) #[] #[]] 34
    simp only [World.size_alloc] at r2
    have U4 : Upd [] w1 ((w1.alloc (.cells #[.slice p xs.length c] 22)).alloc (.cells #[.func (.func 17) #[] #[]] 34)) := ((Upd.refl [] w1).alloc _).alloc _
    rw [← hq1] at r1 r2
    rw [← hq1]
    have hB0 : RBoxes ((w1.alloc (.cells #[.slice p xs.length c] 22)).alloc (.cells #[.func (.func 17) #[] #[]] 34)) bl bst bre bat bk (.slice p xs.length c) stop 0 0 := RBoxes.upd ⟨rl, rst, ⟨_, rre⟩, rat, rk⟩ U4 (by simp)
    have U5 := U1.trans U4
    have hq : q1 = bk + 1 := by omega
    have hz4 : q1 + 2 = ((w1.alloc (.cells #[.slice p xs.length c] 22)).alloc (.cells #[.func (.func 17) #[] #[]] 34)).heap.size := by simp [hq1]
    have HQ := Lib.hid hq
    clear hq1 rl rst rre rat rk U1 U4 hz1 hq
    generalize (w1.alloc (.cells #[.slice p xs.length c] 22)).alloc (.cells #[.func (.func 17) #[] #[]] 34) = W4 at r1 r2 hB0 U5 hz4 ⊢
    have hnn := seq_nonnil (.func 24) #[] #[.pointer (some ⟨q1, 0, none⟩), .pointer (some ⟨q1 + 1, 0, none⟩)] W4
    go_wp2_with fail
    have hlw : w.heap.size ≤ W4.heap.size := U5.size
    have hbW : bk < W4.heap.size := by have := HQ.out; omega
    refine (wpIn_wide (n := 3)).1 ?_
    refine wp_range' (gf := 24) (lb := #[.pointer (some ⟨q1, 0, none⟩), .pointer (some ⟨q1 + 1, 0, none⟩)]) rfl (enters_of Try.func24 (by kernel_rfl) rfl)
      (runs_iter17 2 W4 q1 (q1 + 1) p c xs [bre, bat, bk] (HV.out.upd U5) (by omega) r1 r2 (by have := HBS.out; have := HQ.out; simp; omega)
        (fun h0 b off k e => by
          obtain ⟨b', off', e', hlt, _⟩ := HV.out.cells 0 _ (List.getElem?_eq_getElem h0)
          rw [e] at e'
          cases e'
          have := HBS.out; have := HBL.out; simp; omega)) (fun _ => rfl) (by simp)
      (fun pre W => RBoxes W bl bst bre bat bk (.slice p xs.length c) stop (tot pre) pre.length ∧ Upd [] w W ∧ W4.heap.size ≤ W.heap.size ∧ pre.length ≤ tot pre)
      (fun c _ W => c = .ret ∧ IsRow W bre 4 [.bool true] ∧ Upd [] w W)
      ?hI ?hIx ?hAdm ?h0 (fun t y => (t.setIfInBounds 19 y.1).setIfInBounds 8 y.1) ?assign ?body ?done ?stop
    case hI =>
      rintro pre W W' ⟨h1, h2, h3, h4⟩ u
      exact ⟨h1.keptF u, u.upd h2 hlw (by simp), Nat.le_trans h3 u.size, h4⟩
    case hIx =>
      rintro c pre W W' ⟨h1, h2, h3⟩ u
      exact ⟨h1, u.row h2 (by simp), u.upd h3 hlw (by simp)⟩
    case hAdm =>
      rintro pre y W W' ⟨h1, h2⟩ u
      exact ⟨h1, h2.keptF u (by simp)⟩
    case h0 => exact ⟨hB0, U5, Nat.le_refl _, Nat.le_refl _⟩
    case assign =>
      intro l y W K hK
      gi_wp2
      exact hK
    case stop =>
      rintro D c pre W hD _ ⟨rfl, h2, h3⟩ hK
      gi_wp2
      refine ⟨by simp, .inl ⟨_, _, rfl, run_takeDeferred hK, ?_⟩⟩
      have uf := updF_putObj (B := W4.heap.size) W D _ (.deferred none) hD hK rfl
      have cr : (W.putObj D (.deferred none)).cell? ⟨bre, 0, none⟩ = some (.bool true) := (uf.row h2 (by simp)).cell 0
      exact ⟨.bool true, by simp [results, Try.results5, go_sem, cr], rfl, uf.upd h3 hlw (by simp)⟩
    case done =>
      rintro D ys W hD hys ⟨h1, h2, h3, _⟩ hK
      rw [hys] at h1
      have c1 : W.cell? ⟨bat, 0, none⟩ = some (.int .i64 xs.length) := h1.at_.cell 0
      have c2 : W.cell? ⟨bl, 0, none⟩ = some (.slice p xs.length c) := h1.l_.cell 0
      obtain ⟨t, hre⟩ := h1.re
      clear h1 hys
      go_wp2_with fail
      refine (awake_any _).mono ?_
      rintro e w9 ⟨rfl, U9⟩
      have r9 := hre.upd U9 (by simp)
      have c9 := r9.cell 0
      have f9 := r9.free 0
      simp only [List.getElem?_cons_zero] at c9
      have U10 : Upd [] w (w9.setCell ⟨bre, 0, none⟩ (.bool true)) := (h2.trans U9).setCell_new (p := ⟨bre, 0, none⟩) (by have := HBS.out; have := HBL.out; show w.heap.size ≤ bre; omega) _
      have r10 := r9.setCell_same 0 (.bool true)
      have hK2 := ((U9.block D (Array.getElem?_eq_some_iff.1 hK).1 (by simp)).trans hK)
      have hK3 : (w9.setCell ⟨bre, 0, none⟩ (.bool true)).heap[D]? = some (.deferred (some [])) := (Below.heap_setCell _ _ _ _ (by have := HBS.out; show D ≠ bre; omega)).trans hK2
      clear c1 c2 hre U9 r9 h2 hK hK2
      go_wp2_with fail
      refine ⟨by simp, .inl ⟨_, _, rfl, run_takeDeferred hK3, ?_⟩⟩
      have uf := updF_putObj (B := W4.heap.size) _ D _ (.deferred none) hD hK3 rfl
      have cr := (uf.row r10 (by simp)).cell 0
      exact ⟨.bool true, by simp at cr; simp [results, Try.results5, go_sem, cr], rfl, uf.upd U10 hlw (by simp)⟩
    case body =>
      rintro l pre ⟨v, g⟩ W ⟨h1, h2, h3, h4⟩ ⟨hpc, ho⟩
      dsimp only at hpc ho ⊢
      have hgl := hpc.pos
      have hgt := hpc.le
      obtain ⟨gg, gcap, rfl, hggB⟩ := ho.first hgl
      have hggW := (World.ownsRow.lt ho gg rfl).2
      obtain ⟨bx, ox, rfl, hbx, _⟩ := HV.out.cells (tot pre) _ (List.getElem?_eq_getElem (by omega))
      have hvW := HV.out.upd h2
      have hvc := hvW.le
      have hE : eqL g ((xs.drop (tot pre)).take (tot pre + g.length - tot pre)) = true := by
        unfold eqL
        exact decide_eq_true (by rw [Nat.add_sub_cancel_left]; exact hpc.eq)
      have hh0 := hpc.head
      have hsm := hpc.same
      have hat := fun i (hi : i < g.length) => hpc.at hi
      generalize ht : tot pre = t at *
      generalize hm : pre.length = m at *
      have cat : W.cell? ⟨bat, 0, none⟩ = some (.int .i64 t) := h1.at_.cell 0
      have cl : W.cell? ⟨bl, 0, none⟩ = some (.slice (some ⟨bx, ox, none⟩) xs.length c) := h1.l_.cell 0
      have hz : ((g.length : Int) == 0) = false := by simp only [beq_eq_false_iff_ne, ne_eq]; omega
      have hgt2 : decide ((xs.length : Int) < (t : Int) + (g.length : Int)) = false := decide_eq_false (by omega)
      have a1 : (t : Int) ≤ (t : Int) + (g.length : Int) := by omega
      have a2 : (t : Int) + (g.length : Int) ≤ (c : Int) := by omega
      have a3 : (0 : Int) ≤ (t : Int) + (g.length : Int) := by omega
      have e1 : ((t : Int) + (g.length : Int)).toNat = t + g.length := by omega
      have hct : ¬ c = t := by omega
      have HT := Lib.hid ht
      have HM := Lib.hid hm
      have HE := Lib.hid hE
      have HAT := Lib.hid hat
      have HSM := Lib.hid hsm
      have HH0 := Lib.hid hh0
      have HPC := Lib.hid hpc
      have HVW := Lib.hid hvW
      clear ht hm hE hat hsm hh0 hpc hvW
      gi_wp2_with fail
      refine ⟨trivial, CallsIn.inRound l (callsIn_wide.2 ((equal_any' _ _ _ _ _ _ g ((xs.drop t).take (t + g.length - t)) W ho.view'.2 (HVW.out.slice2 (by omega) (by omega) (.inl ⟨hct, rfl⟩) rfl) (by omega) rfl (by rw [List.length_take, List.length_drop]; omega)).mono ?_))⟩
      rintro e W1 ⟨rfl, U1⟩
      rw [HE.out]
      have h1b := h1.upd U1 (by simp)
      have o1b := ho.kept U1 (by simp)
      have hvb := HVW.out.upd U1
      have HVB := Lib.hid hvb
      clear cat cl h1 hvb HVW HE
      gi_wp2_with fail
      gi_loopw [9] (fun u9 wr => ∃ i : Nat, 1 ≤ i ∧ i ≤ g.length ∧ u9 = .int .i64 i ∧ Upd [] W1 wr) (fun u9 _ => g.length - (intOf u9).toNat)
      case atStart => exact ⟨1, Nat.le_refl _, hgl, rfl, Upd.refl _ _⟩
      case round =>
        obtain ⟨i, hi1, hig, rfl, ur⟩ := hrel
        have h3b := h1b.upd ur (by simp)
        have o3b := o1b.kept ur (by simp)
        by_cases hil : i < g.length
        · obtain ⟨j, rfl⟩ : ∃ j, i = j + 1 := ⟨i - 1, by omega⟩
          obtain ⟨_, _, he, _, _, hcr, _⟩ := o3b.spot2 hgl
          simp only [Value.slice.injEq, Option.some.injEq, Addr.mk.injEq] at he
          obtain ⟨⟨rfl, _, _⟩, _, rfl⟩ := he
          obtain ⟨a, ha⟩ : ∃ a, g[j]? = some a := ⟨g[j]'(by omega), List.getElem?_eq_getElem _⟩
          obtain ⟨b, hb⟩ : ∃ a, g[j + 1]? = some a := ⟨g[j + 1], List.getElem?_eq_getElem hil⟩
          have ca := hcr j a ha
          have cb := hcr (j + 1) b hb
          have hk : key a = key b := by
            have h := HSM.out (t + (j + 1)) (by omega) (by omega)
            unfold isHead at h
            rw [decide_eq_false_iff_not] at h
            have e2 := nth_of ((HAT.out j (by omega)).symm.trans ha)
            have e3 := nth_of ((HAT.out (j + 1) hil).symm.trans hb)
            rw [show t + (j + 1) - 1 = t + j from by omega, e2, e3] at h
            omega
          have ht2 : (ord a b != 0) = false := by rw [ord_eq.2 hk]; rfl
          have hz2 : (0 : Int) ≤ (j : Int) + 1 := by omega
          clear hcr ha hb hk
          gi_wp2_with fail
          refine round_quiet (r := l) (by rintro ⟨_, _, hh⟩; exact hh) (by kernel_rfl) (by kernel_rfl) (by kernel_rfl) ?_
          repeat (first | go_big_quiet_step ((go_at_call 11; first | exact Calls.quiet_of_same (ord_any _ _ _))) | quiet_step ((go_at_call 11; first | exact Calls.quiet_of_same (ord_any _ _ _))))
          refine wpQuiet_nil ?_
          intro _ hw'
          obtain ⟨nq, hw''⟩ := hw'
          subst hw''
          gi_wp2_with fail
          go_roundw
          case rel => exact ⟨j + 1 + 1, by omega, hil, by go_num, ur.trans ((Upd.refl [] wr).drewN nq)⟩
          case measure => simp [intOf]; omega
        · have U3b : Upd [] W wr := U1.trans ur
          have hvr := HVB.out.upd ur
          have cat : wr.cell? ⟨bat, 0, none⟩ = some (.int .i64 t) := h3b.at_.cell 0
          have cl : wr.cell? ⟨bl, 0, none⟩ = some (.slice (some ⟨bx, ox, none⟩) xs.length c) := h3b.l_.cell 0
          clear h1b o1b U1 ur hi1 hig
          by_cases ht0 : t = 0
          · subst ht0
            have hgz : decide ((0 : Int) < ((0 : Nat) : Int)) = false := rfl
            clear hvr
            gi_wp2_with fail
            refine round_quiet (r := l) (by rintro ⟨_, _, hh⟩; exact hh) (by kernel_rfl) (by kernel_rfl) (by kernel_rfl) ?_
            repeat (first | go_big_quiet_step (fail) | quiet_step (fail))
            refine wpQuiet_nil ?_
            intro _ hw'
            obtain ⟨nq, hw''⟩ := hw'
            subst hw''
            have ud : Upd [] wr (wr.drewN nq) := (Upd.refl [] wr).drewN nq
            have h5 := h3b.upd ud (by simp)
            have o5 := o3b.kept ud (by simp)
            have U5w : Upd [] W (wr.drewN nq) := U3b.trans ud
            clear h3b o3b U3b ud cl cat hgz
            generalize wr.drewN nq = W5 at h5 o5 U5w ⊢
            have cat : W5.cell? ⟨bat, 0, none⟩ = some (.int .i64 0) := h5.at_.cell 0
            have fat := h5.at_.free 0
            obtain ⟨Wa, hWa⟩ : ∃ z, z = W5.setCell ⟨bat, 0, none⟩ (.int .i64 ((g.length : Int))) := ⟨_, rfl⟩
            have oa : Own Wa W4.heap.size (.slice (some ⟨gg, 0, none⟩) g.length gcap) g := by rw [hWa]; exact o5.kept ((Upd.refl [bat] W5).setCell (p := ⟨bat, 0, none⟩) (by simp) _) (by have := HBS.out; simp; omega)
            have frun := oa.free 0
            obtain ⟨_, _, he, _, _, hcr, _⟩ := oa.spot2 hgl
            simp only [Value.slice.injEq, Option.some.injEq, Addr.mk.injEq] at he
            obtain ⟨⟨rfl, _, _⟩, _, rfl⟩ := he
            have crun := hcr 0 _ (List.getElem?_eq_getElem hgl)
            clear hcr
            obtain ⟨Wb, hWb⟩ : ∃ z, z = Wa.setCell ⟨gg, 0, none⟩ (.int .i64 1) := ⟨_, rfl⟩
            have ub : Upd [bat, gg] W5 Wb := by rw [hWb, hWa]; exact ((Upd.refl [bat, gg] W5).setCell (p := ⟨bat, 0, none⟩) (by simp) _).setCell (p := ⟨gg, 0, none⟩) (by simp) _
            have ratb : IsRow Wb bat 3 [.int .i64 ((g.length : Int))] := by
              rw [hWb, hWa]
              exact (h5.at_.setCell_same 0 _).setCell_other _ (show gg ≠ bat by have := HBS.out; omega) _
            have rkb : IsRow Wb bk 3 [.int .i64 m] := h5.k_.upd ub (by have := HBS.out; simp; omega)
            have ckb : Wb.cell? ⟨bk, 0, none⟩ = some (.int .i64 m) := rkb.cell 0
            have fkb := rkb.free 0
            obtain ⟨Wc, hWc⟩ : ∃ z, z = Wb.setCell ⟨bk, 0, none⟩ (.int .i64 ((m : Int) + 1)) := ⟨_, rfl⟩
            have uc : Upd [bk] Wb Wc := by rw [hWc]; exact (Upd.refl [bk] Wb).setCell (p := ⟨bk, 0, none⟩) (by simp) _
            have rkc : IsRow Wc bk 3 [.int .i64 ((m : Int) + 1)] := by rw [hWc]; exact rkb.setCell_same 0 _
            have ratc := ratb.upd uc (by have := HBS.out; simp; omega)
            have ubc : Upd [bat, gg, bk] W5 Wc := (ub.mono (by simp)).trans (uc.mono (by simp))
            have ckc : Wc.cell? ⟨bk, 0, none⟩ = some (.int .i64 ((m : Int) + 1)) := rkc.cell 0
            obtain ⟨tre, hre5⟩ := h5.re
            have hBc : RBoxes Wc bl bst bre bat bk (.slice (some ⟨bx, ox, none⟩) xs.length c) stop (0 + g.length) (m + 1) := by
              have hb := HBS.out
              refine ⟨h5.l_.upd ubc (by simp; omega), h5.st.upd ubc (by simp; omega), ⟨tre, hre5.upd ubc (by simp; omega)⟩, ?_, ?_⟩
              · have e : ((0 + g.length : Nat) : Int) = (g.length : Int) := by omega
                rw [e]; exact ratc
              · have e : ((m + 1 : Nat) : Int) = (m : Int) + 1 := by omega
                rw [e]; exact rkc
            have cstc : Wc.cell? ⟨bst, 0, none⟩ = some (.int .i64 stop) := hBc.st.cell 0
            have UWc : Upd [bat, gg, bk] W Wc := (U5w.mono (by simp)).trans ubc
            have UwW : Upd [] w Wc := ((h2.mono (S' := [bat, gg, bk]) (by simp)).trans UWc).shrink (by have := HBS.out; have := HBL.out; simp; omega)
            have hgrow := ho.row gg rfl
            have hLows : Lows [bre, bat, bk] W4.heap.size W Wc := UWc.lows (fun k hk _ => by
              have hb := HBS.out
              simp only [List.mem_cons, List.mem_nil_iff, or_false] at hk
              rcases hk with rfl | rfl | rfl
              · exact .inl ⟨by simp, by omega⟩
              · exact .inr hgrow
              · exact .inl ⟨by simp, by omega⟩)
            rw [hWa] at frun crun
            rw [hWb, hWa] at ckb fkb
            rw [hWc, hWb, hWa] at ckc cstc
            have HWA := Lib.hid hWa
            have HWB := Lib.hid hWb
            have HWC := Lib.hid hWc
            have HRE := Lib.hid (And.intro hBc (And.intro UwW hLows))
            clear hWa hWb hWc oa ub uc rkb rkc ratb ratc ubc UWc UwW hLows hBc h5 o5 U5w hre5 hgrow
            gi_wp2_with fail
            · rw [← HWA.out, ← HWB.out, ← HWC.out]
              refine ⟨trivial, CallsIn.inRound l (callsIn_wide.2 ((awake_any _).mono ?_))⟩
              rintro e w9 ⟨rfl, U9⟩
              obtain ⟨hBc, UwW, hLows⟩ := HRE.out
              obtain ⟨t9, hre9⟩ := hBc.re
              have r9 := hre9.upd U9 (by simp)
              have c9 := r9.cell 0
              have f9 := r9.free 0
              simp only [List.getElem?_cons_zero] at c9
              have U10 := ((U9.mono (S' := [bre]) (by simp)).setCell (p := ⟨bre, 0, none⟩) (by simp) (.bool true))
              have U10w := ((UwW.mono (S' := [bre]) (by simp)).trans U10).shrink (S' := []) (by have := HBS.out; have := HBL.out; simp; omega)
              have L10 := hLows.trans (U10.lows (X := [bre, bat, bk]) (B := W4.heap.size) (fun k hk _ => .inl (by have := HBS.out; simp at hk; subst hk; exact ⟨by simp, by omega⟩)))
              have r10 := r9.setCell_same 0 (.bool true)
              clear ckb fkb ckc cstc frun crun cat fat HRE hBc UwW hLows hre9 r9 U9 U10
              gi_wp2_with fail
              exact ⟨L10, rfl, r10, U10w⟩
            · rw [← HWA.out, ← HWB.out, ← HWC.out]
              obtain ⟨hBc, UwW, hLows⟩ := HRE.out
              refine ⟨hLows, ?_, UwW, Nat.le_trans h3 hLows.toLow.size, ?_⟩
              · rw [tot_one, List.length_append]
                show RBoxes Wc bl bst bre bat bk _ stop (tot pre + g.length) (pre.length + 1)
                rw [HT.out, HM.out]
                exact hBc
              · rw [tot_one, List.length_append]
                show pre.length + 1 ≤ tot pre + g.length
                have ht9 := HT.out
                have hm9 := HM.out
                omega
          · obtain ⟨j, rfl⟩ : ∃ j, t = j + 1 := ⟨t - 1, by omega⟩
            obtain ⟨a, ha⟩ : ∃ a, xs[j]? = some a := ⟨xs[j]'(by omega), List.getElem?_eq_getElem _⟩
            obtain ⟨b, hb⟩ : ∃ a, xs[j + 1]? = some a := ⟨xs[j + 1]'(by omega), List.getElem?_eq_getElem _⟩
            obtain ⟨bx', ox', he, _, hcx⟩ := hvr.cells j a ha
            cases he
            have ca := hcx j a ha
            have cb := hcx (j + 1) b hb
            have hk : key a ≠ key b := by
              have h := HH0.out
              unfold isHead at h
              rw [decide_eq_true_eq, Nat.add_sub_cancel, nth_of ha, nth_of hb] at h
              rcases h with h | h
              · omega
              · exact h
            have ht2 : (ord a b == 0) = false := by rw [beq_eq_false_iff_ne]; exact fun e => hk (ord_eq.1 e)
            have hz2 : (0 : Int) ≤ (j : Int) + 1 := by omega
            have hgz : decide ((0 : Int) < ((j : Int) + 1)) = true := decide_eq_true (by omega)
            clear hvr hcx ha hb hk ht0
            gi_wp2_with fail
            refine round_quiet (r := l) (by rintro ⟨_, _, hh⟩; exact hh) (by kernel_rfl) (by kernel_rfl) (by kernel_rfl) ?_
            repeat (first | go_big_quiet_step ((go_at_call 11; first | exact Calls.quiet_of_same (ord_any _ _ _))) | quiet_step ((go_at_call 11; first | exact Calls.quiet_of_same (ord_any _ _ _))))
            refine wpQuiet_nil ?_
            intro _ hw'
            obtain ⟨nq, hw''⟩ := hw'
            subst hw''
            have ud : Upd [] wr (wr.drewN nq) := (Upd.refl [] wr).drewN nq
            have h5 := h3b.upd ud (by simp)
            have o5 := o3b.kept ud (by simp)
            have U5w : Upd [] W (wr.drewN nq) := U3b.trans ud
            clear h3b o3b U3b ud cl cat ca cb hgz ht2
            generalize wr.drewN nq = W5 at h5 o5 U5w ⊢
            have cat : W5.cell? ⟨bat, 0, none⟩ = some (.int .i64 ((j : Int) + 1)) := h5.at_.cell 0
            have fat := h5.at_.free 0
            obtain ⟨Wa, hWa⟩ : ∃ z, z = W5.setCell ⟨bat, 0, none⟩ (.int .i64 (((j : Int) + 1) + (g.length : Int))) := ⟨_, rfl⟩
            have oa : Own Wa W4.heap.size (.slice (some ⟨gg, 0, none⟩) g.length gcap) g := by rw [hWa]; exact o5.kept ((Upd.refl [bat] W5).setCell (p := ⟨bat, 0, none⟩) (by simp) _) (by have := HBS.out; simp; omega)
            have frun := oa.free 0
            obtain ⟨_, _, he, _, _, hcr, _⟩ := oa.spot2 hgl
            simp only [Value.slice.injEq, Option.some.injEq, Addr.mk.injEq] at he
            obtain ⟨⟨rfl, _, _⟩, _, rfl⟩ := he
            have crun := hcr 0 _ (List.getElem?_eq_getElem hgl)
            clear hcr
            obtain ⟨Wb, hWb⟩ : ∃ z, z = Wa.setCell ⟨gg, 0, none⟩ (.int .i64 1) := ⟨_, rfl⟩
            have ub : Upd [bat, gg] W5 Wb := by rw [hWb, hWa]; exact ((Upd.refl [bat, gg] W5).setCell (p := ⟨bat, 0, none⟩) (by simp) _).setCell (p := ⟨gg, 0, none⟩) (by simp) _
            have ratb : IsRow Wb bat 3 [.int .i64 (((j : Int) + 1) + (g.length : Int))] := by
              rw [hWb, hWa]
              exact (h5.at_.setCell_same 0 _).setCell_other _ (show gg ≠ bat by have := HBS.out; omega) _
            have rkb : IsRow Wb bk 3 [.int .i64 m] := h5.k_.upd ub (by have := HBS.out; simp; omega)
            have ckb : Wb.cell? ⟨bk, 0, none⟩ = some (.int .i64 m) := rkb.cell 0
            have fkb := rkb.free 0
            obtain ⟨Wc, hWc⟩ : ∃ z, z = Wb.setCell ⟨bk, 0, none⟩ (.int .i64 ((m : Int) + 1)) := ⟨_, rfl⟩
            have uc : Upd [bk] Wb Wc := by rw [hWc]; exact (Upd.refl [bk] Wb).setCell (p := ⟨bk, 0, none⟩) (by simp) _
            have rkc : IsRow Wc bk 3 [.int .i64 ((m : Int) + 1)] := by rw [hWc]; exact rkb.setCell_same 0 _
            have ratc := ratb.upd uc (by have := HBS.out; simp; omega)
            have ubc : Upd [bat, gg, bk] W5 Wc := (ub.mono (by simp)).trans (uc.mono (by simp))
            have ckc : Wc.cell? ⟨bk, 0, none⟩ = some (.int .i64 ((m : Int) + 1)) := rkc.cell 0
            obtain ⟨tre, hre5⟩ := h5.re
            have hBc : RBoxes Wc bl bst bre bat bk (.slice (some ⟨bx, ox, none⟩) xs.length c) stop (j + 1 + g.length) (m + 1) := by
              have hb := HBS.out
              refine ⟨h5.l_.upd ubc (by simp; omega), h5.st.upd ubc (by simp; omega), ⟨tre, hre5.upd ubc (by simp; omega)⟩, ?_, ?_⟩
              · have e : ((j + 1 + g.length : Nat) : Int) = ((j : Int) + 1) + (g.length : Int) := by omega
                rw [e]; exact ratc
              · have e : ((m + 1 : Nat) : Int) = (m : Int) + 1 := by omega
                rw [e]; exact rkc
            have cstc : Wc.cell? ⟨bst, 0, none⟩ = some (.int .i64 stop) := hBc.st.cell 0
            have UWc : Upd [bat, gg, bk] W Wc := (U5w.mono (by simp)).trans ubc
            have UwW : Upd [] w Wc := ((h2.mono (S' := [bat, gg, bk]) (by simp)).trans UWc).shrink (by have := HBS.out; have := HBL.out; simp; omega)
            have hgrow := ho.row gg rfl
            have hLows : Lows [bre, bat, bk] W4.heap.size W Wc := UWc.lows (fun k hk _ => by
              have hb := HBS.out
              simp only [List.mem_cons, List.mem_nil_iff, or_false] at hk
              rcases hk with rfl | rfl | rfl
              · exact .inl ⟨by simp, by omega⟩
              · exact .inr hgrow
              · exact .inl ⟨by simp, by omega⟩)
            rw [hWa] at frun crun
            rw [hWb, hWa] at ckb fkb
            rw [hWc, hWb, hWa] at ckc cstc
            have HWA := Lib.hid hWa
            have HWB := Lib.hid hWb
            have HWC := Lib.hid hWc
            have HRE := Lib.hid (And.intro hBc (And.intro UwW hLows))
            clear hWa hWb hWc oa ub uc rkb rkc ratb ratc ubc UWc UwW hLows hBc h5 o5 U5w hre5 hgrow
            gi_wp2_with fail
            · rw [← HWA.out, ← HWB.out, ← HWC.out]
              refine ⟨trivial, CallsIn.inRound l (callsIn_wide.2 ((awake_any _).mono ?_))⟩
              rintro e w9 ⟨rfl, U9⟩
              obtain ⟨hBc, UwW, hLows⟩ := HRE.out
              obtain ⟨t9, hre9⟩ := hBc.re
              have r9 := hre9.upd U9 (by simp)
              have c9 := r9.cell 0
              have f9 := r9.free 0
              simp only [List.getElem?_cons_zero] at c9
              have U10 := ((U9.mono (S' := [bre]) (by simp)).setCell (p := ⟨bre, 0, none⟩) (by simp) (.bool true))
              have U10w := ((UwW.mono (S' := [bre]) (by simp)).trans U10).shrink (S' := []) (by have := HBS.out; have := HBL.out; simp; omega)
              have L10 := hLows.trans (U10.lows (X := [bre, bat, bk]) (B := W4.heap.size) (fun k hk _ => .inl (by have := HBS.out; simp at hk; subst hk; exact ⟨by simp, by omega⟩)))
              have r10 := r9.setCell_same 0 (.bool true)
              clear ckb fkb ckc cstc frun crun cat fat HRE hBc UwW hLows hre9 r9 U9 U10
              gi_wp2_with fail
              exact ⟨L10, rfl, r10, U10w⟩
            · rw [← HWA.out, ← HWB.out, ← HWC.out]
              obtain ⟨hBc, UwW, hLows⟩ := HRE.out
              refine ⟨hLows, ?_, UwW, Nat.le_trans h3 hLows.toLow.size, ?_⟩
              · rw [tot_one, List.length_append]
                show RBoxes Wc bl bst bre bat bk _ stop (tot pre + g.length) (pre.length + 1)
                rw [HT.out, HM.out]
                exact hBc
              · rw [tot_one, List.length_append]
                show pre.length + 1 ≤ tot pre + g.length
                have ht9 := HT.out
                have hm9 := HM.out
                omega

end Go.Proofs.Ytkfolfkgjpcmiaa
