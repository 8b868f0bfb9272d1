/-
  The row's last step, where the call leaves all that was there as it was.
-/
import Derived.Test.YtjknmnmilladlaaRows
import Derived.Below
import Derived.ChangeSame
namespace Go.Proofs.Ytjknmnmilladlaa
open Go.RowKit Go.WideShapes Go.ChangeShapes

theorem postBelow {H : Type} {enc : TypeId × Value → H} {P : Program} {f : Func} {s : ChangeSpec} {apart fresh handsOn again : Bool} {w w' : World} {args : Array Value} {v : Value} {ds gs : List (DataW H)} {before pa pv : List MemPlace}
    (hw : DataW.Whole enc P f.params.toList s.vars apart w args.toList ds gs before)
    (h1 : ∀ (b : Nat) (sp : Nat → Bool) (hd : Bool), DataW.TrodAll enc P w' b sp hd f.resultTypes.toList (v.resultList f.resultTypes.size) (s.fn H (ds ++ gs)).results [])
    (h2 : ∀ sp : Nat → Bool, (∀ p ∈ before, sp p.block = true) → DataW.TrodAll enc P w' 0 sp true f.params.toList args.toList (s.fn H (ds ++ gs)).args pa)
    (h3 : ∀ sp : Nat → Bool, (∀ p ∈ before, sp p.block = true) → DataW.TrodVars enc P w' sp s.vars (s.fn H (ds ++ gs)).vars pv)
    (h4 : before = pa ++ pv) (hb : Below w.heap.size w w')
    (h5 : ∀ (j : Nat) (t : TypeId) (r : Value), f.resultTypes[j]? = some t → (v.resultList f.resultTypes.size)[j]? = some r → Value.okWide P w' .any 0 t r) :
    s.post enc P f apart fresh handsOn again w args v w' := by
  have hall : ∀ p ∈ before, (fun b => decide (b < w.heap.size)) p.block = true := fun p hp => by simpa using hw.lt p hp
  have hmem : ∀ p, p ∈ [] ++ pa ++ pv ↔ p ∈ before := fun p => by rw [h4]; simp
  obtain ⟨_, _, _, _, _, hz, hn⟩ := id hw
  have h2' := h2 (fun b => decide (b < w.heap.size)) hall
  have h3' := h3 (fun b => decide (b < w.heap.size)) hall
  refine ⟨ds, gs, before, [], pa, pv, hw, h1 _ _ _, h2', h3', World.keptBut_mono (fun p hp => ⟨hp, by rw [h4, List.mem_append] at hp; exact .inr hp⟩) (hb.frame (· ∈ before)), fun _ => ⟨h5, _, _, ([] ++ pa) ++ pv, ⟨[] ++ pa, pv, trodAll_append (h2 _ (fun _ _ => rfl)) (h1 _ _ _), h3 _ (fun _ _ => rfl), rfl, ?_, ?_⟩, fun p hp _ => (hmem p).1 hp⟩⟩
  · intro b off hp
    have hin := (hmem _).1 hp
    rw [hb.frozen (hw.lt _ hin)]
    exact hz b off hin
  · intro ha
    have := hn ha
    rw [h4] at this
    simpa using this

end Go.Proofs.Ytjknmnmilladlaa
