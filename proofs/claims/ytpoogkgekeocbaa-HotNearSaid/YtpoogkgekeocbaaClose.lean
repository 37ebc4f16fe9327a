/- The last step of every statement here: the call has answered true and has turned nothing that was there. -/
import Derived.Test.YtpoogkgekeocbaaRows
import Derived.Test.YtpoogkgekeocbaaLib
import Derived.ProofKit
import Derived.OpenShut
namespace Go.Proofs.Ytpoogkgekeocbaa
open Go.ChangeShapes Go.WideShapes Go.ChangeAt Go.RowKit

section
variable {H : Type} {enc : TypeId × Value → H} {P : Program} {W W' : World}

/-- What was read of the arguments reads so behind the call too. -/
theorem args_stay (hl : laidOutB P = true) (hb : Below W.heap.size W W') (sp : Nat → Bool) :
    ∀ (ts : List TypeId) (vs : List Value) (ds : List (DataW H)) (ps : List MemPlace), (ts.all fun t => P.readableRec t && decide (t < P.types.size)) = true →
      DataW.TrodAll enc P W 0 (fun _ => true) true ts vs ds ps → (∀ p ∈ ps, p.block < W.heap.size) → (∀ p ∈ ps, sp p.block = true) → DataW.TrodAll enc P W' 0 sp true ts vs ds ps
  | [], _, _, _, _, h, _, _ => by
    obtain ⟨rfl, rfl, rfl⟩ := trodAll_nil h
    exact trodAll_mk0
  | t :: ts, _, _, _, hr, h, hlt, hs => by
    obtain ⟨v, vs, d, ds, p, q, rfl, rfl, rfl, h1, h2⟩ := trodAll_cons h
    simp only [List.all_cons, Bool.and_eq_true, decide_eq_true_eq] at hr
    have e1 : DataW.Trod enc P W' 0 sp true t v d p :=
      WideElems.Trod_stays hl hr.1.1 hr.1.2 h1 (fun x hx => hb.same (hlt x (List.mem_append_left _ hx))) (fun x hx => hs x (List.mem_append_left _ hx))
    exact trodAll_cons_mk e1 (args_stay hl hb sp ts vs ds q (by simpa using hr.2) h2 (fun x hx => hlt x (List.mem_append_right _ hx)) (fun x hx => hs x (List.mem_append_right _ hx)))

theorem law_post {f : Func} {s : ChangeSpec} {fresh handsOn again : Bool} {args : Array Value} {ds : List (DataW H)} {before : List MemPlace} {tb : TypeId}
    (hl : laidOutB P = true) (hr : (f.params.toList.all fun t => P.readableRec t && decide (t < P.types.size)) = true) (hv : s.vars = [])
    (ht : f.resultTypes = #[tb]) (hub : P.underlying tb = some .bool)
    (hs : s.fn H (ds ++ []) = { results := [.lit (.bool true)], args := ds })
    (hW : DataW.Whole enc P f.params.toList s.vars false W args.toList ds [] before) (hb : Below W.heap.size W W') :
    s.post enc P f false fresh handsOn again W args (.bool true) W' := by
  have hlt : ∀ p ∈ before, p.block < W.heap.size := fun p hp => hW.lt p hp
  have hW0 := hW
  obtain ⟨p, q, hA, hV, he, hz, _⟩ := hW
  rw [hv] at hV
  have hq : q = [] := hV
  subst hq
  rw [List.append_nil] at he
  subst he
  have hres : ∀ (b : Nat) (sp : Nat → Bool) (hd : Bool), DataW.TrodAll enc P W' b sp hd f.resultTypes.toList ((Value.bool true).resultList f.resultTypes.size) [.lit (.bool true)] [] := by
    intro b sp hd
    rw [ht]
    exact trodAll_mk1 (shut_bool hub true)
  have hargs : ∀ sp : Nat → Bool, (∀ x ∈ before, sp x.block = true) → DataW.TrodAll enc P W' 0 sp true f.params.toList args.toList ds before := fun sp hsp => args_stay hl hb sp _ _ _ _ hr hA hlt hsp
  have hok : ∀ (j : Nat) (t : TypeId) (r : Value), f.resultTypes[j]? = some t → ((Value.bool true).resultList f.resultTypes.size)[j]? = some r → Value.okWide P W' .any 0 t r := by
    rw [ht]
    exact ok_one (f := { f with resultTypes := #[tb] }) rfl rfl (okWide_bool_mk hub true)
  refine ⟨ds, [], before, [], before, [], hW0, ?_, ?_, ?_, hb.frame _, fun _ => ⟨hok, [.lit (.bool true)] ++ ds, [], before, ⟨before, [], ?_, ?_, by simp, ?_, by simp⟩, ?_⟩⟩
  · rw [hs]; exact hres _ _ _
  · rw [hs]; exact hargs _ (fun x hx => by simpa using hlt x hx)
  · rw [hs, hv]; rfl
  · exact trodAll_append (hargs _ (fun _ _ => rfl)) (hres _ _ _)
  · rw [hv]; rfl
  · intro b off hp
    rw [hb.frozen (p := ⟨b, off, none⟩) (hlt _ hp)]
    exact hz b off hp
  · intro x hx _; exact hx
end

theorem Try.own : ownKnob Try.prog.godebug = none := by kernel_rfl
theorem Try.laidOut : laidOutB Try.prog = true := by kernel_rfl

end Go.Proofs.Ytpoogkgekeocbaa
