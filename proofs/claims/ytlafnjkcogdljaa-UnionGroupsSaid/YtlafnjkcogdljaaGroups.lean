/- UnionGroups: the walk. -/
import Derived.Test.YtlafnjkcogdljaaI
import Derived.BigQuiet
import Derived.Test.YtlafnjkcogdljaaRound
import Derived.Deep.RegionHeld3
import Derived.Shelf.Abstract
namespace Go.Proofs.Ytlafnjkcogdljaa
open Go.RowKit
attribute [local go_sem] Oper.semAt_some

theorem groups_any (s : Nat) (w : World) :
    Calls Try.prog 22 #[.pointer (some ⟨s, 0, none⟩)] w fun e w' => e = .returned (.func (.func 25) #[] #[.pointer (some ⟨w.heap.size, 0, none⟩)]) ∧ w' = w.alloc (.cells #[.pointer (some ⟨s, 0, none⟩)] 24 (0, 0)) := by
  go_enter Try.func22, Try.ntmps22
  go_wp2
  go_ret
  exact ⟨rfl, rfl⟩

/-- Where the law's variables lie. -/
structure Boxes (W : World) (bn bst bx bre bse bk bl : Nat) (n : Nat) (stop : Int) (v : Value) (se k : Nat) (lst : Int) : Prop where
  n_ : IsRow W bn 3 [.int .i64 n]
  st : IsRow W bst 3 [.int .i64 stop]
  x_ : IsRow W bx 26 [v]
  re : ∃ u, IsRow W bre 4 [.bool u]
  se_ : IsRow W bse 3 [.int .i64 se]
  k_ : IsRow W bk 3 [.int .i64 k]
  l_ : IsRow W bl 3 [.int .i64 lst]

/-- the last group's least one -/
def LastIs (x : List Nat) (m : Nat) (lst : Int) : Prop := lst = -1 ∨ ∃ r : Nat, lst = r ∧ x[r]? = some r ∧ cntTo x r < m

theorem LastIs.lt {x : List Nat} {m : Nat} {lst : Int} (h : LastIs x m lst) {r : Nat} {g : List Nat} (hg : IsGroup x m r g) : lst < r := by
  rcases h with h | ⟨r', h1, h2, h3⟩
  · omega
  · have := root_mono (r := r') hg.root (by rw [hg.num]; exact h3)
    omega

theorem Pairs.upd {w w' : World} {p : Option Addr} {ps : List (Int × Int)} (h : Pairs w p ps) (u : Upd [] w w') : Pairs w' p ps := by
  intro i A C hi
  obtain ⟨b, off, h1, h2, h3⟩ := h i A C hi
  exact ⟨b, off, h1, Nat.lt_of_lt_of_le h2 u.size, fun j A C hj => ⟨(u.cell (p := ⟨b, off + j * 2, none⟩) h2 (by simp)).trans (h3 j A C hj).1, (u.cell (p := ⟨b, off + j * 2 + 1, none⟩) h2 (by simp)).trans (h3 j A C hj).2⟩⟩

theorem Boxes.keptF {W W' : World} {T B0 bn bst bx bre bse bk bl n stop v se k lst} (h : Boxes W bn bst bx bre bse bk bl n stop v se k lst) (u : UpdF T B0 W W')
    (hn : ∀ z, z ∈ [bn, bst, bx, bre, bse, bk, bl] → z ∉ T) : Boxes W' bn bst bx bre bse bk bl n stop v se k lst := by
  obtain ⟨t, ht⟩ := h.re
  exact ⟨u.row h.n_ (hn _ (by simp)), u.row h.st (hn _ (by simp)), u.row h.x_ (hn _ (by simp)), ⟨t, u.row ht (hn _ (by simp))⟩, u.row h.se_ (hn _ (by simp)), u.row h.k_ (hn _ (by simp)), u.row h.l_ (hn _ (by simp))⟩

theorem Own.keptNB {w w' : World} {B : Nat} {v : Value} {x : List Nat} (h : Own w B v x) {S : List Nat} (u : Upd S w w') (hn : ∀ z, v.ownBlock = some z → z ∉ S) : Own w' B v x := by
  refine ⟨h.1, ?_⟩
  rcases h.2 with h2 | ⟨g, cap, cur, rfl, hb, hg, r⟩
  · exact .inl h2
  · refine .inr ⟨g, cap, cur, rfl, hb, ?_, r⟩
    rw [u.block g (Array.getElem?_eq_some_iff.1 hg).1 (hn g rfl)]
    exact hg

theorem within_t (a : Int) (n : Nat) (w : World) (h : inB n a = true) :
    Calls Try.prog 11 #[.int .i64 a, .int .i64 n] w fun e w' => e = .returned (.bool true) ∧ w' = w := by
  rw [← h]
  exact (within_in a n w).mono fun _ _ ⟨h1, h2⟩ => ⟨h1, h2.symm⟩

theorem IsRow.ltu {w w' : World} {b e xs S} (h : IsRow w b e xs) (u : Upd S w w') : b < w'.heap.size := Nat.lt_of_lt_of_le h.lt u.size

set_option maxRecDepth 100000 in
set_option maxHeartbeats 1000000 in
theorem groups_walk (n : Nat) (p : Option Addr) (len cap : Nat) (stop : Int) (ps : List (Int × Int)) (w : World) (hn : n ≤ 60) (hlen : len ≤ 80) (hps : ps.length = len) (hl : Pairs w p ps) :
    Calls Try.prog 6 #[.int .i64 n, .slice p len cap, .int .i64 stop] w fun e w' => e = .returned (.bool true) ∧ Upd [] w w' := by
  have HPS := Lib.hid hps
  have HL := Lib.hid hl
  clear hps hl
  refine (callsIn_wide (n := 3)).1 ?_
  refine callsIn_of_wp_marks Try.func6 rfl trivial ?_ rfl
  refine wpIn_wide.2 ?_
  simp only [Try.ntmps6, List.size_toArray, List.length_cons, List.length_nil, Nat.reduceAdd, Nat.reduceSub, Array.replicate_succ, Array.replicate_zero, List.push_toArray, List.append_toArray, List.nil_append, List.cons_append]
  go_wp2_with fail
  have rn := ((IsRow.new w [.int .i64 n] 3).alloc (.cells #[.int .i64 stop] 3)).alloc (.cells #[.bool false] 4)
  have rs := (IsRow.new (w.alloc (.cells #[.int .i64 n] 3)) [.int .i64 stop] 3).alloc (.cells #[.bool false] 4)
  have rb := IsRow.new ((w.alloc (.cells #[.int .i64 n] 3)).alloc (.cells #[.int .i64 stop] 3)) [.bool false] 4
  have U1 : Upd [] w (((w.alloc (.cells #[.int .i64 n] 3)).alloc (.cells #[.int .i64 stop] 3)).alloc (.cells #[.bool false] 4)) := (((Upd.refl [] w).alloc _).alloc _).alloc _
  simp only [World.size_alloc] at rs rb
  obtain ⟨bn, hbn⟩ : ∃ z, z = w.heap.size := ⟨_, rfl⟩
  obtain ⟨bst, hbst⟩ : ∃ z, z = w.heap.size + 1 := ⟨_, rfl⟩
  obtain ⟨bre, hbre⟩ : ∃ z, z = w.heap.size + 1 + 1 := ⟨_, rfl⟩
  rw [← hbre] at rb ⊢
  rw [← hbst] at rs ⊢
  rw [← hbn] at rn ⊢
  have ln := rn.lt
  have ls := rs.lt
  have lb := rb.lt
  have HBN := Lib.hid hbn
  have HBS := Lib.hid hbst
  have HBR := Lib.hid hbre
  have hpr := HL.out.upd U1
  have HPR := Lib.hid hpr
  clear hbn hbst hbre HL hpr
  generalize ((w.alloc (.cells #[.int .i64 n] 3)).alloc (.cells #[.int .i64 stop] 3)).alloc (.cells #[.bool false] 4) = w1 at rn rs rb U1 ln ls lb HPR ⊢
  refine (made_any n p len cap ps w1 hn hlen HPS.out HPR.out).mono ?_
  rintro e w2 ⟨s, b, B, v, x, rfl, M⟩
  obtain ⟨xp, xcap, rfl, _⟩ := M.own.read
  have hxl := M.sets.len
  have hx60 : x.length ≤ 60 := by omega
  have HXB : Hid (∀ z, (Value.slice xp x.length xcap).ownBlock = some z → z < w2.heap.size) := Lib.hid (fun z hz => (World.ownsRow.lt M.own z hz).2)
  have HXL := Lib.hid hxl
  clear hxl
  go_wp2_with fail
  have xr := ((((IsRow.new w2 [.slice xp x.length xcap] 26).alloc (.cells #[.int .i64 0] 3)).alloc (.cells #[.int .i64 0] 3)).alloc (.cells #[.int .i64 (-1)] 3))
  have ser := ((IsRow.new (w2.alloc (.cells #[.slice xp x.length xcap] 26)) [.int .i64 0] 3).alloc (.cells #[.int .i64 0] 3)).alloc (.cells #[.int .i64 (-1)] 3)
  have kr := (IsRow.new ((w2.alloc (.cells #[.slice xp x.length xcap] 26)).alloc (.cells #[.int .i64 0] 3)) [.int .i64 0] 3).alloc (.cells #[.int .i64 (-1)] 3)
  have lr := IsRow.new (((w2.alloc (.cells #[.slice xp x.length xcap] 26)).alloc (.cells #[.int .i64 0] 3)).alloc (.cells #[.int .i64 0] 3)) [.int .i64 (-1)] 3
  have U2 : Upd [] w2 ((((w2.alloc (.cells #[.slice xp x.length xcap] 26)).alloc (.cells #[.int .i64 0] 3)).alloc (.cells #[.int .i64 0] 3)).alloc (.cells #[.int .i64 (-1)] 3)) := ((((Upd.refl [] w2).alloc _).alloc _).alloc _).alloc _
  simp only [World.size_alloc] at ser kr lr
  obtain ⟨bl, hbl⟩ : ∃ z, z = w2.heap.size + 1 + 1 + 1 := ⟨_, rfl⟩
  obtain ⟨bk, hbk⟩ : ∃ z, z = w2.heap.size + 1 + 1 := ⟨_, rfl⟩
  obtain ⟨bse, hbse⟩ : ∃ z, z = w2.heap.size + 1 := ⟨_, rfl⟩
  obtain ⟨bx, hbx⟩ : ∃ z, z = w2.heap.size := ⟨_, rfl⟩
  rw [← hbl] at lr ⊢
  rw [← hbk] at kr ⊢
  rw [← hbse] at ser ⊢
  rw [← hbx] at xr ⊢
  have rn2 := (rn.upd M.upd (by simp)).upd U2 (by simp)
  have rs2 := (rs.upd M.upd (by simp)).upd U2 (by simp)
  have rb2 := (rb.upd M.upd (by simp)).upd U2 (by simp)
  have hB3 : Boxes ((((w2.alloc (.cells #[.slice xp x.length xcap] 26)).alloc (.cells #[.int .i64 0] 3)).alloc (.cells #[.int .i64 0] 3)).alloc (.cells #[.int .i64 (-1)] 3)) bn bst bx bre bse bk bl n stop (.slice xp x.length xcap) 0 0 (-1) := ⟨rn2, rs2, xr, ⟨_, rb2⟩, ser, kr, lr⟩
  have s3 := M.sets.upd U2 (by simp) (by simp)
  have o3 := M.own.kept U2 (by simp)
  have U3 := (U1.trans M.upd).trans U2
  have hle1 := U1.size
  have hle2 := M.upd.size
  have hs0 := M.s0
  have hb0 := M.b0
  have hsB := M.sB
  have hbB := M.bB
  have hBle := M.le
  clear rn2 rs2 rb2 xr ser kr lr U1 U2 M rn rs rb
  generalize (((w2.alloc (.cells #[.slice xp x.length xcap] 26)).alloc (.cells #[.int .i64 0] 3)).alloc (.cells #[.int .i64 0] 3)).alloc (.cells #[.int .i64 (-1)] 3) = w3 at hB3 s3 o3 U3 ⊢
  refine (groups_any s w3).mono ?_
  rintro e w4 ⟨rfl, rfl⟩
  obtain ⟨q, hq⟩ : ∃ z, z = w3.heap.size := ⟨_, rfl⟩
  rw [← hq]
  have lg := s3.leasts
  have cx := s3.len
  have hqn : IsRow (w3.alloc (.cells #[.pointer (some ⟨s, 0, none⟩)] 24)) q 24 [.pointer (some ⟨s, 0, none⟩)] := by rw [hq]; exact IsRow.new w3 _ _
  have U4 : Upd [] w3 (w3.alloc (.cells #[.pointer (some ⟨s, 0, none⟩)] 24)) := (Upd.refl [] w3).alloc _
  have hsz4 : w3.heap.size < (w3.alloc (.cells #[.pointer (some ⟨s, 0, none⟩)] 24)).heap.size := by simp
  have hB4 : Boxes (w3.alloc (.cells #[.pointer (some ⟨s, 0, none⟩)] 24)) bn bst bx bre bse bk bl n stop (.slice xp x.length xcap) 0 0 (-1) := by
    obtain ⟨u, hu⟩ := hB3.re
    exact ⟨hB3.n_.alloc _, hB3.st.alloc _, hB3.x_.alloc _, ⟨u, hu.alloc _⟩, hB3.se_.alloc _, hB3.k_.alloc _, hB3.l_.alloc _⟩
  have s4 := s3.upd U4 (by simp) (by simp)
  have o4 := o3.kept U4 (by simp)
  have U5 := U3.trans U4
  have lbse := hB3.se_.lt
  have lbk := hB3.k_.lt
  have lbl := hB3.l_.lt
  have lbre : bre < w3.heap.size := by obtain ⟨u, hu⟩ := hB3.re; exact hu.lt
  have HQ := Lib.hid hq
  have HCX := Lib.hid cx
  have lbx := hB3.x_.lt
  have HBL := Lib.hid hbl
  have HBK := Lib.hid hbk
  have HBSE := Lib.hid hbse
  have HBX := Lib.hid hbx
  clear hbl hbk hbse hbx
  clear hq cx hB3 s3 o3 U3 U4
  generalize w3.alloc (.cells #[.pointer (some ⟨s, 0, none⟩)] 24) = w4 at hqn hsz4 hB4 s4 o4 U5 ⊢
  have hnt : ∀ z, z ∈ [bn, bst, bx, bre, bse, bk, bl] → z ∉ [s, b] := by
    have := HBX.out
    have := HBSE.out
    have := HBK.out
    have := HBL.out
    intro z hz
    simp at hz ⊢
    omega
  have HNT := Lib.hid hnt
  clear hnt
  go_wp2_with fail
  refine (wpIn_wide (n := 3)).1 ?_
  refine wp_range' (gf := 25) (lb := #[.pointer (some ⟨q, 0, none⟩)]) rfl (enters_of Try.func25 (by kernel_rfl) rfl)
    (groups_iter 2 w4 s b n q x [bse, bk, bl, bre] s4 (by omega) hqn (by simp; omega)) (fun _ => rfl) (by have := s4.lt; simp; omega) (by simp; omega)
    (fun pre W => ∃ lst, LastIs x pre.length lst ∧ Boxes W bn bst bx bre bse bk bl n stop (.slice xp x.length xcap) (sumLen x pre.length) pre.length lst ∧ Own W B (.slice xp x.length xcap) x ∧ Upd [] w W ∧ pre.length ≤ cntX x)
    (fun c _ W => c = .ret ∧ IsRow W bre 4 [.bool true] ∧ Upd [] w W)
    ?hI ?hIx ?hAdm ?h0 (fun t y => (t.setIfInBounds 37 y.1).setIfInBounds 12 y.1) ?assign ?body ?done ?stop
  case hI =>
    rintro pre W W' ⟨lst, h1, h2, h3, h4, h5⟩ u
    exact ⟨lst, h1, h2.keptF u HNT.out, h3.keptF u (by simp; omega), u.upd h4 (by have := U5.size; omega) (by simp; omega), h5⟩
  case hIx =>
    rintro c pre W W' ⟨h1, h2, h3⟩ u
    exact ⟨h1, u.row h2 (HNT.out _ (by simp)), u.upd h3 (by have := U5.size; omega) (by simp; omega)⟩
  case hAdm =>
    rintro pre y W W' ⟨h1, h2, h3⟩ u
    exact ⟨h1, h2, h3.keptF u (by simp)⟩
  case h0 => exact ⟨-1, .inl rfl, hB4, o4, U5, Nat.zero_le _⟩
  case assign =>
    intro l y W K hK
    gi_wp2
    exact hK
  case stop =>
    rintro D c pre W hD _ ⟨rfl, h2, h3⟩ hK
    gi_wp2
    refine ⟨by simp, .inl ⟨_, _, rfl, run_takeDeferred hK, ?_⟩⟩
    have uf := updF_putObj (B := w4.heap.size) W D _ (.deferred none) hD hK rfl
    have cr : (W.putObj D (.deferred none)).cell? ⟨bre, 0, none⟩ = some (.bool true) := (uf.row h2 (by simp)).cell 0
    exact ⟨.bool true, by simp [results, Try.results6, go_sem, cr], rfl, uf.upd h3 (by have := U5.size; omega) (by simp)⟩
  case done =>
    rintro D xs W hD hxs ⟨lst, h1, h2, h3, h4, h5⟩ hK
    have hsum : sumLen x xs.length = n := by rw [hxs, sumLen_all lg, HCX.out]
    rw [hsum, hxs] at h2
    clear hsum h1 h5 hxs
    have c1 : W.cell? ⟨bse, 0, none⟩ = some (.int .i64 n) := h2.se_.cell 0
    have c2 : W.cell? ⟨bn, 0, none⟩ = some (.int .i64 n) := h2.n_.cell 0
    have c3 : W.cell? ⟨bk, 0, none⟩ = some (.int .i64 (cntX x)) := h2.k_.cell 0
    have c4 : W.cell? ⟨bx, 0, none⟩ = some (.slice xp x.length xcap) := h2.x_.cell 0
    obtain ⟨t, hre⟩ := h2.re
    have c5 : W.cell? ⟨bre, 0, none⟩ = some (.bool t) := hre.cell 0
    have c6 : W.frozen? ⟨bre, 0, none⟩ = false := hre.free 0
    have lW := U5.size
    have lW4 := (Array.getElem?_eq_some_iff.1 hK).1
    have ho := h3.kept ((Upd.refl [] W).drew) (by simp)
    have n1 : bre ≠ bse := by have := HBSE.out; omega
    have n2 : bre ≠ bn := by have := HBN.out; have := HBR.out; omega
    have n3 : bre ≠ bk := by have := HBK.out; omega
    have n4 : bre ≠ bx := by have := HBX.out; omega
    go_wp2_with fail
    go_region_held3 (fun w' => w'.cell? ⟨bse, 0, none⟩ = some (.int .i64 n) ∧ w'.cell? ⟨bn, 0, none⟩ = some (.int .i64 n) ∧ w'.cell? ⟨bk, 0, none⟩ = some (.int .i64 (cntX x)) ∧ w'.cell? ⟨bx, 0, none⟩ = some (.slice xp x.length xcap)) (first | exact ⟨c1, c2, c3, c4⟩ | exact ⟨k1, k2, k3, k4⟩ | exact ⟨(World.cell?_setCell_far _ _ _ _ n1).trans k1, (World.cell?_setCell_far _ _ _ _ n2).trans k2, (World.cell?_setCell_far _ _ _ _ n3).trans k3, (World.cell?_setCell_far _ _ _ _ n4).trans k4⟩) (first | (go_at_call 15; refine (count_list B _ x _ ho (by omega)).mono ?_; rintro e w' ⟨rfl, rfl⟩) | (go_at_call 7; refine (awake_any _).mono ?_; rintro e w9 ⟨rfl, U9⟩; have k1 := U9.cell' c1 (by simp); have k2 := U9.cell' c2 (by simp); have k3 := U9.cell' c3 (by simp); have k4 := U9.cell' c4 (by simp); have k5 := U9.cell' c5 (by simp); have k6 := (U9.frozen (p := ⟨bre, 0, none⟩) hre.lt (by simp)).trans c6))
    have U10 : Upd [bre] W (w9.setCell ⟨bre, 0, none⟩ (.bool true)) := (((Upd.refl [bre] W).drew).trans (U9.mono (by simp))).setCell (p := ⟨bre, 0, none⟩) (by simp) _
    have r9 : IsRow (w9.setCell ⟨bre, 0, none⟩ (.bool true)) bre 4 [.bool true] := (((hre.drew).upd U9 (by simp)).setCell_same 0 (.bool true))
    have hK2 := (U10.block D lW4 (by simp; omega)).trans hK
    have U11 := (h4.mono (S' := [bre]) (by simp)).trans U10
    clear k1 k2 k3 k4 k5 k6 c1 c2 c3 c4 c5 c6 n1 n2 n3 n4 ho h2 h3 h4 hre U9 U10 hK
    generalize w9.setCell ⟨bre, 0, none⟩ (.bool true) = w10 at r9 hK2 U11 ⊢
    as_aux_lemma =>
      go_wp2_with fail
      refine ⟨by simp, .inl ⟨_, _, rfl, run_takeDeferred hK2, ?_⟩⟩
      have uf := updF_putObj (B := w4.heap.size) w10 D _ (.deferred none) hD hK2 rfl
      have cr : (w10.putObj D (.deferred none)).cell? ⟨bre, 0, none⟩ = some (.bool true) := (uf.row r9 (by simp)).cell 0
      exact ⟨.bool true, by simp [results, Try.results6, go_sem, cr], rfl, (uf.upd U11 (by omega) (by simp)).shrink (by have := HBR.out; simp; omega)⟩
  case body =>
    rintro l pre ⟨v, g⟩ W ⟨lst, h1, h2, h3, h4, h5⟩ ⟨hg, hlt, ho⟩
    dsimp only at hg ho ⊢
    obtain ⟨r, hgr⟩ := grp_is lg hlt
    rw [← hg] at hgr
    have hlst := h1.lt hgr
    obtain ⟨m, hm⟩ : ∃ m, m = pre.length := ⟨_, rfl⟩
    have hg0 := hgr.head
    have hgl : 0 < g.length := (List.getElem?_eq_some_iff.1 hg0).1
    obtain ⟨gp, gcap, rfl, _⟩ := ho.read
    obtain ⟨gg, rfl, hgB, hgW, hgc⟩ := Own.at' ho hg0
    have cg0 := hgc 0 r hg0
    have cl : W.cell? ⟨bl, 0, none⟩ = some (.int .i64 lst) := h2.l_.cell 0
    have fl := h2.l_.free 0
    have HGR := Lib.hid hgr
    have HG := Lib.hid hg
    have HM := Lib.hid hm
    have HGC := Lib.hid hgc
    have HH := Lib.hid h1
    have hg60 : g.length ≤ 60 := by rw [hg]; exact Nat.le_trans (grpTo_len x x.length _) hx60
    have hz : ((g.length : Int) == 0) = false := by simp only [beq_eq_false_iff_ne, ne_eq]; omega
    have hnle : decide ((r : Int) ≤ lst) = false := decide_eq_false (by omega)
    clear hgr hg hm hgc hg0 h1
    gi_wp2_with fail
    refine round_quiet (r := l) (by rintro ⟨_, _, hh⟩; exact hh) (by kernel_rfl) (by kernel_rfl) (by kernel_rfl) ?_
    repeat (first | go_big_quiet_step (fail) | quiet_step (fail))
    refine wpQuiet_nil ?_
    intro _ hw'
    obtain ⟨nq, hw''⟩ := hw'
    subst hw''
    have ud : Upd [] W (W.drewN nq) := ⟨rfl, rfl, rfl, Nat.le_refl _, fun _ _ _ => rfl⟩
    have hX4 : ∀ z, z ∈ [bse, bk, bl, bre] → z < B ∨ w2.heap.size ≤ z := by have := HBSE.out; have := HBK.out; have := HBL.out; simp; omega
    have g2 := h2.keptF (ud.toF 0) (by simp)
    have ho2 := ho.kept ud (by simp)
    have o2 := h3.kept ud (by simp)
    have hu2 := h4.trans ud
    have U6 : Upd [bse, bk, bl, bre] W (W.drewN nq) := ud.mono (by simp)
    clear h2 ho h3 h4 ud cl fl cg0 hX4 hnle hlst
    generalize W.drewN nq = W2 at g2 ho2 o2 hu2 U6 ⊢
    have cl : W2.cell? ⟨bl, 0, none⟩ = some (.int .i64 lst) := g2.l_.cell 0
    have fl := g2.l_.free 0
    have cg0 : W2.cell? ⟨gg, 0, none⟩ = some (.int .i64 (r : Nat)) := by
      obtain ⟨g', e1, _, _, hc⟩ := Own.at' ho2 HGR.out.head
      cases e1
      exact hc 0 r HGR.out.head
    gi_wp2_with fail
    have u3 : Upd [bl] W2 (W2.setCell ⟨bl, 0, none⟩ (.int .i64 (r : Nat))) := (Upd.refl [bl] W2).setCell (p := ⟨bl, 0, none⟩) (by simp) _
    have hblB : ∀ z, z ∈ [bn, bst, bx, bre, bse, bk] → z ≠ bl := by
      have := HBN.out
      have := HBS.out
      have := HBR.out
      have := HBL.out
      have := HBK.out
      have := HBSE.out
      have := HBX.out
      simp
      omega
    have g3 : Boxes (W2.setCell ⟨bl, 0, none⟩ (.int .i64 (r : Nat))) bn bst bx bre bse bk bl n stop (.slice xp x.length xcap) (sumLen x pre.length) pre.length (r : Nat) := by
      obtain ⟨t, ht⟩ := g2.re
      exact ⟨g2.n_.upd u3 (by simpa using hblB bn (by simp)), g2.st.upd u3 (by simpa using hblB bst (by simp)), g2.x_.upd u3 (by simpa using hblB bx (by simp)), ⟨t, ht.upd u3 (by simpa using hblB bre (by simp))⟩,
        g2.se_.upd u3 (by simpa using hblB bse (by simp)), g2.k_.upd u3 (by simpa using hblB bk (by simp)), g2.l_.setCell_same 0 _⟩
    have blW4 : bl < w4.heap.size := by omega
    have ho3 := ho2.kept u3 (by simp; omega)
    have HBLB := Lib.hid hblB
    have o3 := o2.keptNB u3 (fun z hz => by have := HXB.out z hz; have := HBL.out; simp; omega)
    have hu3 := (hu2.mono (S' := [bl]) (by simp)).trans u3
    have U7 := U6.trans (u3.mono (S' := [bse, bk, bl, bre]) (by simp))
    clear g2 ho2 o2 hu2 U6 u3 cl fl cg0 hblB
    generalize W2.setCell ⟨bl, 0, none⟩ (.int .i64 (r : Nat)) = W3 at g3 ho3 o3 hu3 U7 ⊢
    as_aux_lemma =>
      gi_loopw [53] (fun i wr => ∃ j : Nat, j ≤ g.length ∧ i = .int .i64 j ∧ Upd [] W3 wr) (fun i _ => g.length - (intOf i).toNat)
      case atStart => exact ⟨0, Nat.zero_le _, rfl, Upd.refl _ _⟩
      case round =>
        obtain ⟨j, hj, rfl, ur⟩ := hrel
        have g4 := g3.keptF (ur.toF 0) (by simp)
        have ho4 := ho3.kept ur (by simp)
        have o4 := o3.kept ur (by simp)
        by_cases hjl : j < g.length
        · obtain ⟨a, ha⟩ : ∃ u, g[j]? = some u := ⟨g[j], List.getElem?_eq_getElem hjl⟩
          obtain ⟨hax, hxa⟩ := HGR.out.mem j a ha
          obtain ⟨g', e1, _, _, hgc⟩ := Own.at' ho4 ha
          cases e1
          obtain ⟨gx, rfl, _, _, hxc⟩ := Own.at' o4 hxa
          have ca := hgc j a ha
          have cr := hgc 0 r HGR.out.head
          have cxa := hxc a r hxa
          have cn := g4.n_.cell 0
          have cx := g4.x_.cell 0
          simp only [List.getElem?_cons_zero] at cn cx
          have ian : inB n (a : Int) = true := inB_nat _ _ (by have := HXL.out; omega)
          have HA := Lib.hid ha
          have HGC := Lib.hid hgc
          clear hxa ha hxc hgc
          by_cases hj0 : j = 0
          · subst hj0
            have ear : a = r := by
              have h1 := HA.out
              have h2 := HGR.out.head
              rw [h1] at h2
              exact Option.some.inj h2
            subst ear
            clear cr
            gi_wp2_with fail
            refine round_quiet (r := l) (by rintro ⟨_, _, hh⟩; exact hh) (by kernel_rfl) (by kernel_rfl) (by kernel_rfl) ?_
            repeat (first | go_big_quiet_step ((go_at_call 11; exact Calls.quiet_of_same (within_t _ _ _ ian))) | quiet_step ((go_at_call 11; exact Calls.quiet_of_same (within_t _ _ _ ian))))
            refine wpQuiet_nil ?_
            intro _ hw'
            obtain ⟨nq, hw''⟩ := hw'
            subst hw''
            gi_wp2_with fail
            go_roundw
            case rel => exact ⟨1, by omega, by first | go_num | rfl, ur.trans ⟨rfl, rfl, rfl, Nat.le_refl _, fun _ _ _ => rfl⟩⟩
            case measure => simp [intOf]; omega
          · obtain ⟨j', rfl⟩ : ∃ j', j = j' + 1 := ⟨j - 1, by omega⟩
            obtain ⟨b', hb'⟩ : ∃ u, g[j']? = some u := ⟨g[j'], List.getElem?_eq_getElem (by omega)⟩
            have hba := HGR.out.rise j' b' a hb' HA.out
            have cb := HGC.out j' b' hb'
            have hle : decide ((a : Int) ≤ (b' : Int)) = false := decide_eq_false (by omega)
            have hjp : decide (0 < ((j' : Int) + 1)) = true := decide_eq_true (by omega)
            clear hb'
            gi_wp2_with fail
            refine round_quiet (r := l) (by rintro ⟨_, _, hh⟩; exact hh) (by kernel_rfl) (by kernel_rfl) (by kernel_rfl) ?_
            repeat (first | go_big_quiet_step ((go_at_call 11; exact Calls.quiet_of_same (within_t _ _ _ ian))) | quiet_step ((go_at_call 11; exact Calls.quiet_of_same (within_t _ _ _ ian))))
            refine wpQuiet_nil ?_
            intro _ hw'
            obtain ⟨nq, hw''⟩ := hw'
            subst hw''
            gi_wp2_with fail
            go_roundw
            case rel => exact ⟨j' + 1 + 1, by omega, by go_num, ur.trans ⟨rfl, rfl, rfl, Nat.le_refl _, fun _ _ _ => rfl⟩⟩
            case measure => simp [intOf]; omega
        · have hjg : j = g.length := by omega
          have UW : Upd [bse, bk, bl, bre] W wr := U7.trans (ur.mono (by simp))
          have hwr := hu3.trans (ur.mono (by simp))
          clear g3 ho3 o3 U7 ur hu3
          have cse : wr.cell? ⟨bse, 0, none⟩ = some (.int .i64 (sumLen x pre.length : Nat)) := g4.se_.cell 0
          have ck : wr.cell? ⟨bk, 0, none⟩ = some (.int .i64 (pre.length : Nat)) := g4.k_.cell 0
          have cst : wr.cell? ⟨bst, 0, none⟩ = some (.int .i64 stop) := g4.st.cell 0
          have hs60 : sumLen x pre.length ≤ 60 := by
            have h1 := sumLen_mono x (show pre.length ≤ cntX x by omega)
            rw [sumLen_all lg] at h1
            omega
          have fse := g4.se_.free 0
          have fk := g4.k_.free 0
          obtain ⟨Wa, hWa⟩ : ∃ z, z = wr.setCell ⟨bse, 0, none⟩ (.int .i64 ((sumLen x pre.length : Nat) + (g.length : Nat))) := ⟨_, rfl⟩
          have ua : Upd [bse] wr Wa := by rw [hWa]; exact (Upd.refl [bse] wr).setCell (p := ⟨bse, 0, none⟩) (by simp) _
          have nk : bk ≠ bse := by have := HBK.out; have := HBSE.out; omega
          have nl : bl ≠ bse ∧ bl ≠ bk := by have := HBL.out; have := HBK.out; have := HBSE.out; omega
          have nx : bx ≠ bse ∧ bx ≠ bk := by have := HBX.out; have := HBK.out; have := HBSE.out; omega
          have nn : bn ≠ bse ∧ bn ≠ bk ∧ bst ≠ bse ∧ bst ≠ bk ∧ bre ≠ bse ∧ bre ≠ bk := by have := HBN.out; have := HBS.out; have := HBR.out; have := HBK.out; have := HBSE.out; omega
          obtain ⟨t, hre⟩ := g4.re
          have rse : IsRow Wa bse 3 [.int .i64 ((sumLen x pre.length : Nat) + (g.length : Nat))] := by rw [hWa]; exact g4.se_.setCell_same 0 _
          have rk := g4.k_.upd ua (by simpa using nk)
          obtain ⟨Wb, hWb⟩ : ∃ z, z = Wa.setCell ⟨bk, 0, none⟩ (.int .i64 ((pre.length : Nat) + 1)) := ⟨_, rfl⟩
          have ub : Upd [bk] Wa Wb := by rw [hWb]; exact (Upd.refl [bk] Wa).setCell (p := ⟨bk, 0, none⟩) (by simp) _
          have uab : Upd [bse, bk] wr Wb := (ua.mono (by simp)).trans (ub.mono (by simp))
          have rkb : IsRow Wb bk 3 [.int .i64 ((pre.length : Nat) + 1)] := by rw [hWb]; exact rk.setCell_same 0 _
          have gB : Boxes Wb bn bst bx bre bse bk bl n stop (.slice xp x.length xcap) (sumLen x (pre.length + 1)) (pre.length + 1) (r : Nat) := by
            refine ⟨g4.n_.upd uab (by simp; omega), g4.st.upd uab (by simp; omega), g4.x_.upd uab (by simp; omega), ⟨t, hre.upd uab (by simp; omega)⟩, ?_, ?_, g4.l_.upd uab (by simp; omega)⟩
            · have e : ((sumLen x (pre.length + 1) : Nat) : Int) = (sumLen x pre.length : Nat) + (g.length : Nat) := by
                simp only [sumLen]; rw [HG.out]; omega
              rw [e]
              exact rse.upd ub (by simpa using nk.symm)
            · have e : ((pre.length + 1 : Nat) : Int) = (pre.length : Nat) + 1 := by omega
              rw [e]
              exact rkb
          have oB := o4.keptNB uab (fun z hz => by have := HXB.out z hz; have := HBK.out; have := HBSE.out; simp; omega)
          have UB : Upd [bse, bk, bl, bre] W Wb := UW.trans (uab.mono (by simp))
          have hwB := (hwr.mono (S' := [bl, bse, bk]) (by simp)).trans (uab.mono (by simp))
          have hwB' : Upd [] w Wb := hwB.shrink (by have := HBL.out; have := HBK.out; have := HBSE.out; simp; omega)
          have ck2 : Wa.cell? ⟨bk, 0, none⟩ = some (.int .i64 (pre.length : Nat)) := rk.cell 0
          have fk2 : Wa.frozen? ⟨bk, 0, none⟩ = false := rk.free 0
          have ckb : Wb.cell? ⟨bk, 0, none⟩ = some (.int .i64 ((pre.length : Nat) + 1)) := rkb.cell 0
          have cstb : Wb.cell? ⟨bst, 0, none⟩ = some (.int .i64 stop) := gB.st.cell 0
          have HLI : Hid (LastIs x (pre.length + 1) (r : Nat)) := Lib.hid (.inr ⟨r, rfl, HGR.out.root, by rw [HGR.out.num]; omega⟩)
          rw [hWa] at ck2 fk2
          rw [hWb, hWa] at ckb cstb
          have HWA := Lib.hid hWa
          have HWB := Lib.hid hWb
          clear ua rk rse ub uab rkb g4 o4 ho4 UW hwr hWa hWb cst fk ck hwB nk nl nx nn hre
          have hpl : pre.length ≤ 60 := by have := cntTo_le x x.length; unfold cntX at hlt; omega
          have hpl2 : (pre ++ [(Value.slice (some ⟨gg, 0, none⟩) g.length gcap, g)]).length = pre.length + 1 := by simp
          have HPL := Lib.hid hpl2
          clear hpl2
          gi_wp2_with fail
          · rw [← HWA.out, ← HWB.out]
            refine ⟨trivial, CallsIn.inRound l (callsIn_wide.2 ((awake_any _).mono ?_))⟩
            rintro e w9 ⟨rfl, U9⟩
            obtain ⟨t9, hre9⟩ := gB.re
            have r9 := hre9.upd U9 (by simp)
            have c9 := r9.cell 0
            have f9 := r9.free 0
            simp only [List.getElem?_cons_zero] at c9
            clear ckb cstb ck2 fk2 fse
            gi_wp2_with fail
            refine ⟨(UB.trans (U9.mono (by simp))).setCell (p := ⟨bre, 0, none⟩) (by simp) _, rfl, r9.setCell_same 0 _, (((hwB'.trans U9).mono (S' := [bre]) (by simp)).setCell (p := ⟨bre, 0, none⟩) (by simp) _).shrink (by have := HBR.out; simp; omega)⟩
          · rw [← HWA.out, ← HWB.out]
            refine ⟨UB, (r : Nat), ?_, ?_, oB, hwB', ?_⟩
            · rw [HPL.out]; exact HLI.out
            · rw [HPL.out]; exact gB
            · rw [HPL.out]; omega

end Go.Proofs.Ytlafnjkcogdljaa
