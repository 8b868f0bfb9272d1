/-
  Two books beside each other in memory; plain: what has gone from each of two that are the same.
-/
import Derived.Test.YtjknmnmilladlaaW39
namespace Go.Proofs.Ytjknmnmilladlaa
open Go.RowKit

theorem BookIs.keptO {w w' : World} {bk bm dk dm : Nat} {n : Int} {up fr : List Step} {L Ld : List Slot} (h : BookIs w bk bm n up fr L) (hK : Kept dk dm w w') (h1 : bk ≠ dk) (h2 : bk ≠ dm) (h3 : bm ≠ dk) (h4 : bm ≠ dm) (hA : AwayB w bk dk) (hm : MapIs w dm Ld) :
    BookIs w' bk bm n up fr L ∧ ∀ X, AwayB w bk X → AwayB w' bk X := by
  have hc : ∀ o, w'.cell? ⟨bk, o, none⟩ = w.cell? ⟨bk, o, none⟩ := fun o => hK.cell h.lt h1 h2
  have hf : ∀ o, w'.frozen? ⟨bk, o, none⟩ = w.frozen? ⟨bk, o, none⟩ := fun o => hK.frozen h.lt h1 h2
  obtain ⟨vu, u1, u2, u3⟩ := h.c1
  obtain ⟨vf, f1, f2, f3⟩ := h.c2
  refine ⟨⟨(hc 0).trans h.c0, ⟨vu, (hc 1).trans u1, IsRow.kept (by decide) u2 hK (hA vu (.inl u1)) hm, u3⟩, ⟨vf, (hc 2).trans f1, IsRow.kept (by decide) f2 hK (hA vf (.inr f1)) hm, f3⟩, (hc 3).trans h.c3, fun o => (hf o).trans (h.fz o), h.map.of_block (hK.block bm h.map.lt h3 h4)⟩, fun X hX x hx => ?_⟩
  rw [hc, hc] at hx
  exact hX x hx

theorem Apart.ints {w : World} {v : Value} {l : List Int} {X : Nat} (h : IsInts w v l) (hX : w.heap.size ≤ X) : Apart X v := by
  intro a n' cap' hv hn he
  have hl : n' = l.length := by
    obtain ⟨_, ao, cap, h0, _⟩ := h
    rw [h0] at hv
    cases hv
    rfl
  obtain ⟨b, off, cap, h0, _, _, hlt, _⟩ := h.cells (by omega)
  rw [h0] at hv
  cases hv
  have he2 : b = X := he
  omega

theorem Inv.perm {n : Int} {up fr : List Step} {L L2 : List Slot} (h : Inv n up fr L) (hp : L2.Perm L) : Inv n up fr L2 :=
  ⟨h.n1, h.vu, h.ul, h.vf, fun s hs => h.rt s (hp.subset hs), hp.symm.pairwise h.ids (fun {a b} hab => Ne.symm hab), by rw [hp.length_eq]; exact h.len, fun t ht => by rw [h.eq t ht, loadOf_perm hp]⟩

theorem Drops.inv {n : Int} {up fr fr2 : List Step} {L L2 : List Slot} {ids : List Int} (hI : Inv n up fr L) (h : Drops fr L ids fr2 L2) : Inv n up fr2 L2 := by
  induction h with
  | nil => exact hI
  | snoc _ hs ih => exact (ih.drop hs).2.1
theorem Drops.mem {fr fr2 : List Step} {L L2 : List Slot} {ids : List Int} (h : Drops fr L ids fr2 L2) : ∀ x, x ∈ L2 ↔ x ∈ L ∧ x.id ∉ ids := by
  induction h with
  | nil => simp
  | @snoc ids fr2 L2 s _ _ ih =>
    intro x
    unfold without
    rw [List.mem_filter, ih x]
    simp only [ne_eq, decide_not, Bool.not_eq_true', decide_eq_false_iff_not, List.mem_append, List.mem_singleton, not_or]
    exact and_assoc
theorem Drops.sub {fr fr2 : List Step} {L L2 : List Slot} {ids : List Int} (h : Drops fr L ids fr2 L2) : L2.Sublist L := by
  induction h with
  | nil => exact List.Sublist.refl _
  | snoc _ _ ih => exact (without_sub _ _).trans ih

/-- The same ones gone from two that hold the same: the same stay, and as much is free. -/
theorem Drops.both {n : Int} {up fr fa fb : List Step} {L K La Kb : List Slot} {ids : List Int} (hI : Inv n up fr L) (hp : K.Perm L) (ha : Drops fr L ids fa La) (hb : Drops fr K ids fb Kb) : Kb.Perm La ∧ fb = fa := by
  have hI2 := hI.perm hp
  have nd : ∀ {M : List Slot}, (M.Pairwise fun a b => a.id ≠ b.id) → M.Nodup := fun h => h.imp fun {a b} hab he => hab (by rw [he])
  have hpm : Kb.Perm La := by
    rw [List.perm_ext_iff_of_nodup (nd (hI2.ids.sublist hb.sub)) (nd (hI.ids.sublist ha.sub))]
    intro x
    rw [hb.mem x, ha.mem x, hp.mem_iff]
  exact ⟨hpm, inv_eq (ha.inv hI) (hb.inv hI2) hpm⟩

theorem SortedOf.perm {L K S : List Slot} (h : SortedOf K S) (hp : K.Perm L) : SortedOf L S := ⟨h.1.trans hp, h.2⟩

end Go.Proofs.Ytjknmnmilladlaa
