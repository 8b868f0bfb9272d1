/-
  Plain: a reservation that is made, moved to where it is, cut, and gone. No program here.
-/
import Derived.Test.YtjknmnmilladlaaP17
namespace Go.Proofs.Ytjknmnmilladlaa

/-- A profile is known by what is not out and what is reserved. -/
theorem inv_eq {n : Int} {up fr fr2 : List Step} {L L2 : List Slot} (h : Inv n up fr L) (k : Inv n up fr2 L2) (hp : L2.Perm L) : fr2 = fr :=
  valid_eq k.vf h.vf fun t ht => by rw [k.eq t ht, h.eq t ht, loadOf_perm hp]

theorem without_snoc {L : List Slot} {id : Int} {s : Slot} (hn : ∀ x ∈ L, x.id ≠ id) (hs : s.id = id) : without (L ++ [s]) id = L := by
  unfold without
  rw [List.filter_append, List.filter_cons_of_neg (by simp [hs]), List.filter_nil, List.append_nil, List.filter_eq_self]
  intro x hx
  simpa using hn x hx

theorem moved_self (s : Slot) : moved s s.frm = s := by
  unfold moved
  obtain ⟨a, b, c, d⟩ := s
  simp
  omega

theorem back_move {n : Int} {up fr : List Step} {L : List Slot} {s : Slot} (hn : ∀ x ∈ L, x.id ≠ s.id) (hI : Inv n up fr (L ++ [s])) {d : Do} (d1 : d.kind ≠ 1) (d2 : d.kind ≠ 2) (d3 : d.kind ≠ 3) (d5 : d.kind ≠ 5) (hid : d.s.id = s.id) (hf : d.s.frm = s.frm)
    {err : Int} {up2 fr2 : List Step} {L2 : List Slot} (h : DoStep n up fr (L ++ [s]) d [] err up2 fr2 L2) : err = 0 ∧ up2 = up ∧ fr2 = fr ∧ L2 = L ++ [s] := by
  have hs : s ∈ L ++ [s] := by simp
  have hI2 := h.inv hI
  have hr := hI.rt s hs
  have hri := right_iff.1 hr
  obtain ⟨_, hu, h3 | ⟨x, hx, hxid, h3⟩⟩ := h.move_inv d1 d2 d3 d5
  · exact absurd hid.symm (h3.2.2.1 s hs)
  · have hxs : x = s := slot_one hI.ids hx hs (by rw [hxid, hid])
    subst hxs
    rw [hf, moved_self] at h3
    rcases h3 with ⟨_, _, h4, _⟩ | ⟨_, _, _, h4, _⟩ | ⟨h4, _, _, _, _, h5⟩
    · rcases h4 with h4 | ⟨_, h4⟩
      · rw [isT_iff.2 hri.2.1] at h4; cases h4
      · rw [hr] at h4; cases h4
    · exact absurd (hI.again hs x.to hri.2.2.2.1 (Int.le_refl _)) h4
    · rw [without_snoc hn rfl] at h5
      subst hu
      subst h5
      exact ⟨h4, rfl, inv_eq hI hI2 (List.Perm.refl _), rfl⟩

theorem back_cut {n : Int} {up fr : List Step} {L : List Slot} {s : Slot} (hn : ∀ x ∈ L, x.id ≠ s.id) (hI : Inv n up fr (L ++ [s])) {d : Do} (d3 : d.kind = 3) (hid : d.s.id = s.id)
    {err : Int} {up2 fr2 : List Step} {L2 : List Slot} (h : DoStep n up fr (L ++ [s]) d [] err up2 fr2 L2) :
    up2 = up ∧ ((err = 2 ∧ fr2 = fr ∧ L2 = L ++ [s]) ∨ (err = 0 ∧ L2 = L) ∨ (err = 0 ∧ ∃ x, x.id = s.id ∧ L2 = L ++ [x])) := by
  have hs : s ∈ L ++ [s] := by simp
  obtain ⟨_, hu, h3 | ⟨x, hx, hxid, h3⟩⟩ := h.cut_inv d3
  · exact absurd hid.symm (h3.2.2.1 s hs)
  · have hxs : x = s := slot_one hI.ids hx hs (by rw [hxid, hid])
    subst hxs
    rw [without_snoc hn rfl] at h3
    refine ⟨hu, ?_⟩
    rcases h3 with ⟨h4, h5, _, h6⟩ | ⟨h4, _, _, _, _, h5⟩ | ⟨h4, _, _, _, _, _, h5⟩
    · exact .inl ⟨h6, h4, h5⟩
    · exact .inr (.inl ⟨h4, h5⟩)
    · exact .inr (.inr ⟨h4, ⟨x.id, x.frm, d.s.to, x.nodes⟩, rfl, h5⟩)

theorem back_free {n : Int} {up fr fr0 : List Step} {L : List Slot} {s : Slot} (hn : ∀ x ∈ L, x.id ≠ s.id) (hI0 : Inv n up fr0 L) (hI : Inv n up fr (L ++ [s])) {d : Do} (d2 : d.kind = 2) (hid : d.s.id = s.id)
    {err : Int} {up2 fr2 : List Step} {L2 : List Slot} (h : DoStep n up fr (L ++ [s]) d [] err up2 fr2 L2) : err = 0 ∧ up2 = up ∧ fr2 = fr0 ∧ L2 = L := by
  have hs : s ∈ L ++ [s] := by simp
  have hI2 := h.inv hI
  obtain ⟨_, hu, h3 | ⟨h4, x, hx, hxid, _, h5⟩⟩ := h.free_inv d2
  · exact absurd hid.symm (h3.2.2.1 s hs)
  · have hxs : x = s := slot_one hI.ids hx hs (by rw [hxid, hid])
    subst hxs
    rw [without_snoc hn rfl] at h5
    subst hu
    subst h5
    exact ⟨h4, rfl, inv_eq hI0 hI2 (List.Perm.refl _), rfl⟩
theorem back_none {n : Int} {up fr : List Step} {L : List Slot} {d : Do} (hn : ∀ x ∈ L, x.id ≠ d.s.id) (d2 : d.kind = 2) {err : Int} {up2 fr2 : List Step} {L2 : List Slot} (h : DoStep n up fr L d [] err up2 fr2 L2) : err = 4 ∧ up2 = up ∧ fr2 = fr ∧ L2 = L := by
  obtain ⟨_, hu, h3 | ⟨h4, x, hx, hxid, _, h5⟩⟩ := h.free_inv d2
  · exact ⟨h3.2.2.2, hu, h3.1, h3.2.1⟩
  · exact absurd hxid (hn x hx)

end Go.Proofs.Ytjknmnmilladlaa
