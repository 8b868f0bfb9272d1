/-
  Plain: the slots by their numbers; who stays when nodes are out; how many nodes there are at most. No program here.
-/
import Derived.Test.YtjknmnmilladlaaW35
namespace Go.Proofs.Ytjknmnmilladlaa

theorem DoStep.ids_le {M n : Int} {up fr : List Step} {L : List Slot} {d : Do} {ids : List Int} {err : Int} {up2 fr2 : List Step} {L2 : List Slot} (h : DoStep n up fr L d ids err up2 fr2 L2) (hL : ∀ x ∈ L, x.id ≤ M) (hd : d.s.id ≤ M) : ∀ x ∈ L2, x.id ≤ M := by
  have hw : ∀ id, ∀ x ∈ without L id, x.id ≤ M := fun id x hx => hL x ((without_sub L id).subset hx)
  cases h with
  | takeArg _ _ => exact hL
  | takeTwice _ _ _ _ => exact hL
  | takeLong _ _ _ _ => exact hL
  | takeRoom _ _ _ _ _ => exact hL
  | take _ _ _ _ _ =>
    intro x hx
    rw [List.mem_append] at hx
    rcases hx with hx | hx
    · exact hL x hx
    · simp at hx; subst hx; exact hd
  | freeNone _ _ => exact hL
  | free _ _ _ => exact hw _
  | cutNone _ _ => exact hL
  | cutArg _ _ _ _ => exact hL
  | cutAll _ _ _ _ _ _ => exact hw _
  | @cut s _ hs _ _ _ _ _ =>
    intro x hx
    rw [List.mem_append] at hx
    rcases hx with hx | hx
    · exact hw _ x hx
    · simp at hx; subst hx; exact hL s hs
  | outArg _ _ => exact hL
  | outLong _ _ _ => exact hL
  | out _ _ _ hg _ _ => exact fun x hx => hL x (hg.sub.subset hx)
  | moveNone _ _ _ _ _ => exact hL
  | moveTime _ _ _ _ _ _ _ => exact hL
  | moveArg _ _ _ _ _ _ _ _ => exact hL
  | @moveRoom s _ _ _ _ hs _ _ _ _ _ =>
    intro x hx
    rw [List.mem_append] at hx
    rcases hx with hx | hx
    · exact hw _ x hx
    · simp at hx; subst hx; exact hL _ hs
  | @move s _ _ _ _ hs _ _ _ _ =>
    intro x hx
    rw [List.mem_append] at hx
    rcases hx with hx | hx
    · exact hw _ x hx
    · simp at hx; subst hx; exact hL s hs

theorem SortedOf.lt {L S : List Slot} (h : SortedOf L S) (hd : L.Pairwise fun a b => a.id ≠ b.id) : S.Pairwise fun a b => a.id < b.id := by
  have h1 : S.Pairwise fun a b => a.id ≠ b.id := h.1.symm.pairwise hd (fun {x y} hxy => Ne.symm hxy)
  exact (h.2.and h1).imp fun {a b} ⟨x, y⟩ => by omega
theorem SortedOf.unique {L S T : List Slot} (h : SortedOf L S) (k : SortedOf L T) (hd : L.Pairwise fun a b => a.id ≠ b.id) : S = T := by
  have hp : S.Perm T := h.1.trans k.1.symm
  have h1 := h.lt hd
  have h2 := k.lt hd
  refine List.Perm.eq_of_pairwise (le := fun a b => a.id ≤ b.id) ?_ (h1.imp fun {a b} h => by omega) (h2.imp fun {a b} h => by omega) hp
  intro a b ha hb hab hba
  exact slot_one (h.1.symm.pairwise hd (fun {x y} hxy => Ne.symm hxy)) ha (hp.symm.subset hb) (by omega)
theorem SortedOf.len {L S : List Slot} (h : SortedOf L S) : S.length = L.length := h.1.length_eq

theorem Gone.stay {up : List Step} {L0 L : List Slot} {G : List Int} (h : Gone up L0 G L) : ∀ x, x ∈ L ↔ x ∈ L0 ∧ x.id ∉ G := by
  induction h with
  | nil => simp
  | @snoc G L s hg hs _ ih =>
    intro x
    unfold without
    rw [List.mem_filter, ih x]
    simp only [ne_eq, decide_not, Bool.not_eq_true', decide_eq_false_iff_not, List.mem_append, List.mem_singleton, not_or]
    exact and_assoc

/-- What stays, by the numbers: just those whose numbers have not gone. -/
theorem stay_filter {up : List Step} {L0 L S0 S : List Slot} {G : List Int} (h0 : L0.Pairwise fun a b => a.id ≠ b.id) (h : Gone up L0 G L) (hs0 : SortedOf L0 S0) (hs : SortedOf L S) : S = S0.filter fun x => !decide (x.id ∈ G) := by
  have hd : L.Pairwise fun a b => a.id ≠ b.id := h0.sublist h.sub
  refine SortedOf.unique hs ⟨?_, (hs0.2.sublist List.filter_sublist)⟩ hd
  have hn0 : S0.Nodup := (hs0.lt h0).imp fun {a b} hab he => by subst he; omega
  have hn : L.Nodup := hd.imp fun {a b} hab he => hab (by rw [he])
  rw [List.perm_ext_iff_of_nodup (hn0.sublist List.filter_sublist) hn]
  intro x
  rw [List.mem_filter, h.stay x, hs0.1.mem_iff]
  simp

/-- never more than there are; as many, where nothing is out -/
def UpOk (n : Int) (up : List Step) (out : Bool) : Prop := (∀ t, 0 ≤ t → val up t ≤ n) ∧ (out = false → up = [⟨0, n⟩])
theorem UpOk.new (n : Int) : UpOk n [⟨0, n⟩] false := ⟨fun t _ => by unfold val plc; simp [plcN, frv], fun _ => rfl⟩

theorem DoStep.up {n : Int} {up fr : List Step} {L : List Slot} {d : Do} {ids : List Int} {err : Int} {up2 fr2 : List Step} {L2 : List Slot} (hI : Inv n up fr L) {o : Bool} (hu : UpOk n up o) (h : DoStep n up fr L d ids err up2 fr2 L2) : UpOk n up2 (o || (decide (d.kind = 5) && decide (err = 0))) := by
  have hsame : up2 = up → (o || (decide (d.kind = 5) && decide (err = 0))) = o ∨ UpOk n up2 (o || (decide (d.kind = 5) && decide (err = 0))) → UpOk n up2 (o || (decide (d.kind = 5) && decide (err = 0))) := by
    rintro rfl (h | h)
    · rw [h]; exact hu
    · exact h
  by_cases d5 : d.kind = 5
  · rcases h.out_inv d5 with ⟨_, h1, _, _, h2⟩ | ⟨h1, ha, _, hup, _⟩
    · refine hsame h1 (.inl ?_)
      have : err ≠ 0 := by rcases h2 with ⟨_, h⟩ | ⟨_, _, h⟩ <;> omega
      simp [this]
    · unfold _root_.Go.Proofs.Ytjknmnmilladlaa.outArg at ha
      simp only [Bool.and_eq_true, decide_eq_true_eq, isT_iff] at ha
      have hn := hI.n1
      have hk := outUp_ok (k := d.s.nodes) hI.vu hI.ul ha.1.1.1.1.1 ha.1.1.2 ha.1.1.1.2.2 ⟨ha.1.2, by omega⟩
      refine ⟨fun t ht => ?_, fun h => by simp [d5, h1] at h⟩
      rw [hup, hk.2.2 t ht]
      have := hu.1 t ht
      have := hI.vu.val_range ht
      split <;> omega
  · have hup : up2 = up := by
      by_cases d1 : d.kind = 1
      · exact (h.take_inv d1).2.1
      by_cases d2 : d.kind = 2
      · exact (h.free_inv d2).2.1
      by_cases d3 : d.kind = 3
      · exact (h.cut_inv d3).2.1
      exact (h.move_inv d1 d2 d3 d5).2.1
    exact hsame hup (.inl (by simp [d5]))

end Go.Proofs.Ytjknmnmilladlaa
