/-
  Plain: what may have been done to a book, kind by kind. No program here.
-/
import Derived.Test.YtjknmnmilladlaaW29
namespace Go.Proofs.Ytjknmnmilladlaa

theorem DoStep.take_inv {n : Int} {up fr : List Step} {L : List Slot} {d : Do} {ids : List Int} {err : Int} {up2 fr2 : List Step} {L2 : List Slot} (hk : d.kind = 1) (h : DoStep n up fr L d ids err up2 fr2 L2) :
    ids = [] ∧ up2 = up ∧ ((fr2 = fr ∧ L2 = L ∧ ((rightOf n d.s = false ∧ err = 2) ∨ (rightOf n d.s = true ∧ (∃ x ∈ L, x.id = d.s.id) ∧ err = 51) ∨ (rightOf n d.s = true ∧ (∀ x ∈ L, x.id ≠ d.s.id) ∧ 9000 ≤ L.length ∧ err = 3) ∨
      (rightOf n d.s = true ∧ (∀ x ∈ L, x.id ≠ d.s.id) ∧ L.length < 9000 ∧ addErr fr d.s.frm d.s.to (-d.s.nodes) ≠ 0 ∧ err = 70))) ∨
      (err = 0 ∧ rightOf n d.s = true ∧ (∀ x ∈ L, x.id ≠ d.s.id) ∧ L.length < 9000 ∧ addErr fr d.s.frm d.s.to (-d.s.nodes) = 0 ∧ fr2 = addRes fr d.s.frm d.s.to (-d.s.nodes) ∧ L2 = L ++ [d.s])) := by
  cases h <;> first
    | (exfalso; omega)
    | skip
  case takeArg h1 h2 => exact ⟨rfl, rfl, .inl ⟨rfl, rfl, .inl ⟨h2, rfl⟩⟩⟩
  case takeTwice x h1 h2 h3 h4 => exact ⟨rfl, rfl, .inl ⟨rfl, rfl, .inr (.inl ⟨h2, ⟨x, h3, h4⟩, rfl⟩)⟩⟩
  case takeLong h1 h2 h3 h4 => exact ⟨rfl, rfl, .inl ⟨rfl, rfl, .inr (.inr (.inl ⟨h2, h3, h4, rfl⟩))⟩⟩
  case takeRoom h1 h2 h3 h4 h5 => exact ⟨rfl, rfl, .inl ⟨rfl, rfl, .inr (.inr (.inr ⟨h2, h3, h4, h5, rfl⟩))⟩⟩
  case take h1 h2 h3 h4 h5 => exact ⟨rfl, rfl, .inr ⟨rfl, h2, h3, h4, h5, rfl, rfl⟩⟩

theorem DoStep.free_inv {n : Int} {up fr : List Step} {L : List Slot} {d : Do} {ids : List Int} {err : Int} {up2 fr2 : List Step} {L2 : List Slot} (hk : d.kind = 2) (h : DoStep n up fr L d ids err up2 fr2 L2) :
    ids = [] ∧ up2 = up ∧ ((fr2 = fr ∧ L2 = L ∧ (∀ x ∈ L, x.id ≠ d.s.id) ∧ err = 4) ∨ (err = 0 ∧ ∃ s ∈ L, s.id = d.s.id ∧ fr2 = addRes fr s.frm s.to s.nodes ∧ L2 = without L s.id)) := by
  cases h <;> first
    | (exfalso; omega)
    | skip
  case freeNone h1 h2 => exact ⟨rfl, rfl, .inl ⟨rfl, rfl, h2, rfl⟩⟩
  case free s h1 h2 h3 => exact ⟨rfl, rfl, .inr ⟨rfl, s, h2, h3, rfl, rfl⟩⟩

theorem DoStep.cut_inv {n : Int} {up fr : List Step} {L : List Slot} {d : Do} {ids : List Int} {err : Int} {up2 fr2 : List Step} {L2 : List Slot} (hk : d.kind = 3) (h : DoStep n up fr L d ids err up2 fr2 L2) :
    ids = [] ∧ up2 = up ∧ ((fr2 = fr ∧ L2 = L ∧ (∀ x ∈ L, x.id ≠ d.s.id) ∧ err = 4) ∨ (∃ s ∈ L, s.id = d.s.id ∧ ((fr2 = fr ∧ L2 = L ∧ (isT d.s.to = false ∨ s.to < d.s.to) ∧ err = 2) ∨
      (err = 0 ∧ isT d.s.to = true ∧ d.s.to ≤ s.to ∧ d.s.to ≤ s.frm ∧ fr2 = addRes fr s.frm s.to s.nodes ∧ L2 = without L s.id) ∨
      (err = 0 ∧ isT d.s.to = true ∧ d.s.to ≤ s.to ∧ s.frm < d.s.to ∧ addErr (addRes fr s.frm s.to s.nodes) s.frm d.s.to (-s.nodes) = 0 ∧ fr2 = addRes (addRes fr s.frm s.to s.nodes) s.frm d.s.to (-s.nodes) ∧ L2 = without L s.id ++ [⟨s.id, s.frm, d.s.to, s.nodes⟩])))) := by
  cases h <;> first
    | (exfalso; omega)
    | skip
  case cutNone h1 h2 => exact ⟨rfl, rfl, .inl ⟨rfl, rfl, h2, rfl⟩⟩
  case cutArg s h1 h2 h3 h4 => exact ⟨rfl, rfl, .inr ⟨s, h2, h3, .inl ⟨rfl, rfl, h4, rfl⟩⟩⟩
  case cutAll s h1 h2 h3 h4 h5 h6 => exact ⟨rfl, rfl, .inr ⟨s, h2, h3, .inr (.inl ⟨rfl, h4, h5, h6, rfl, rfl⟩)⟩⟩
  case cut s h1 h2 h3 h4 h5 h6 h7 => exact ⟨rfl, rfl, .inr ⟨s, h2, h3, .inr (.inr ⟨rfl, h4, h5, h6, h7, rfl, rfl⟩)⟩⟩

theorem DoStep.out_inv {n : Int} {up fr : List Step} {L : List Slot} {d : Do} {ids : List Int} {err : Int} {up2 fr2 : List Step} {L2 : List Slot} (hk : d.kind = 5) (h : DoStep n up fr L d ids err up2 fr2 L2) :
    (ids = [] ∧ up2 = up ∧ fr2 = fr ∧ L2 = L ∧ ((Ytjknmnmilladlaa.outArg n d.s.frm d.s.to d.s.nodes = false ∧ err = 2) ∨ (Ytjknmnmilladlaa.outArg n d.s.frm d.s.to d.s.nodes = true ∧ 1000 < (outUp up d.s.frm d.s.to d.s.nodes).length ∧ err = 3))) ∨
      (err = 0 ∧ Ytjknmnmilladlaa.outArg n d.s.frm d.s.to d.s.nodes = true ∧ (outUp up d.s.frm d.s.to d.s.nodes).length ≤ 1000 ∧ up2 = outUp up d.s.frm d.s.to d.s.nodes ∧ ∃ G dn, Gone up2 L G L2 ∧ HurtIs up2 L2 0 ∧ dn.Perm L2 ∧ ids = (G.mergeSort fun x y => decide (x ≤ y)) ∧ fr2 = sumF up2 dn) := by
  cases h <;> first
    | (exfalso; omega)
    | skip
  case outArg h1 h2 => exact .inl ⟨rfl, rfl, rfl, rfl, .inl ⟨h2, rfl⟩⟩
  case outLong h1 h2 h3 => exact .inl ⟨rfl, rfl, rfl, rfl, .inr ⟨h2, h3, rfl⟩⟩
  case out G dn h1 h2 h3 h4 h5 h6 => exact .inr ⟨rfl, h2, h3, rfl, G, dn, h4, h5, h6, rfl, rfl⟩

theorem DoStep.move_inv {n : Int} {up fr : List Step} {L : List Slot} {d : Do} {ids : List Int} {err : Int} {up2 fr2 : List Step} {L2 : List Slot} (d1 : d.kind ≠ 1) (d2 : d.kind ≠ 2) (d3 : d.kind ≠ 3) (d5 : d.kind ≠ 5) (h : DoStep n up fr L d ids err up2 fr2 L2) :
    ids = [] ∧ up2 = up ∧ ((fr2 = fr ∧ L2 = L ∧ (∀ x ∈ L, x.id ≠ d.s.id) ∧ err = 4) ∨ (∃ s ∈ L, s.id = d.s.id ∧ ((fr2 = fr ∧ L2 = L ∧ (isT d.s.frm = false ∨ isT d.s.frm = true ∧ rightOf n (moved s d.s.frm) = false) ∧ err = 2) ∨
      (err = 70 ∧ isT d.s.frm = true ∧ rightOf n (moved s d.s.frm) = true ∧ addErr (addRes fr s.frm s.to s.nodes) (moved s d.s.frm).frm (moved s d.s.frm).to (-(moved s d.s.frm).nodes) ≠ 0 ∧ addErr (addRes fr s.frm s.to s.nodes) s.frm s.to (-s.nodes) = 0 ∧ fr2 = addRes (addRes fr s.frm s.to s.nodes) s.frm s.to (-s.nodes) ∧ L2 = without L s.id ++ [s]) ∨
      (err = 0 ∧ isT d.s.frm = true ∧ rightOf n (moved s d.s.frm) = true ∧ addErr (addRes fr s.frm s.to s.nodes) (moved s d.s.frm).frm (moved s d.s.frm).to (-(moved s d.s.frm).nodes) = 0 ∧ fr2 = addRes (addRes fr s.frm s.to s.nodes) (moved s d.s.frm).frm (moved s d.s.frm).to (-(moved s d.s.frm).nodes) ∧ L2 = without L s.id ++ [moved s d.s.frm])))) := by
  cases h <;> first
    | (exfalso; omega)
    | skip
  case moveNone _ _ _ _ h2 => exact ⟨rfl, rfl, .inl ⟨rfl, rfl, h2, rfl⟩⟩
  case moveTime s _ _ _ _ h2 h3 h4 => exact ⟨rfl, rfl, .inr ⟨s, h2, h3, .inl ⟨rfl, rfl, .inl h4, rfl⟩⟩⟩
  case moveArg s _ _ _ _ h2 h3 h4 h5 => exact ⟨rfl, rfl, .inr ⟨s, h2, h3, .inl ⟨rfl, rfl, .inr ⟨h4, h5⟩, rfl⟩⟩⟩
  case moveRoom s _ _ _ _ h2 h3 h4 h5 h6 h7 => exact ⟨rfl, rfl, .inr ⟨s, h2, h3, .inr (.inl ⟨rfl, h4, h5, h6, h7, rfl, rfl⟩)⟩⟩
  case move s _ _ _ _ h2 h3 h4 h5 h6 => exact ⟨rfl, rfl, .inr ⟨s, h2, h3, .inr (.inr ⟨rfl, h4, h5, h6, rfl, rfl⟩)⟩⟩

/-- The chapter's example. -/
theorem known1 {err : Int} {up2 fr2 : List Step} {L2 : List Slot} (h : DoStep 4 [⟨0, 4⟩] [⟨0, 4⟩] [] ⟨1, ⟨1, 0, 10, 3⟩⟩ [] err up2 fr2 L2) : err = 0 ∧ up2 = [⟨0, 4⟩] ∧ fr2 = [⟨0, 1⟩, ⟨10, 4⟩] ∧ L2 = [⟨1, 0, 10, 3⟩] := by
  have hr : rightOf 4 ⟨1, 0, 10, 3⟩ = true := by decide
  have he : addErr [⟨0, 4⟩] 0 10 (-3) = 0 := by decide
  have hres : addRes [⟨0, 4⟩] 0 10 (-3) = [⟨0, 1⟩, ⟨10, 4⟩] := by decide
  obtain ⟨_, h2, h3 | h3⟩ := h.take_inv rfl
  · obtain ⟨_, _, h4 | h4 | h4 | h4⟩ := h3
    · rw [hr] at h4; simp at h4
    · obtain ⟨_, ⟨x, hx, _⟩, _⟩ := h4; simp at hx
    · simp at h4
    · exact absurd he h4.2.2.2.1
  · obtain ⟨h4, _, _, _, _, h5, h6⟩ := h3
    exact ⟨h4, h2, h5.trans hres, by simpa using h6⟩
theorem known2 {err : Int} {up2 fr2 : List Step} {L2 : List Slot} (h : DoStep 4 [⟨0, 4⟩] [⟨0, 1⟩, ⟨10, 4⟩] [⟨1, 0, 10, 3⟩] ⟨1, ⟨2, 5, 9, 2⟩⟩ [] err up2 fr2 L2) : err = 70 ∧ up2 = [⟨0, 4⟩] ∧ fr2 = [⟨0, 1⟩, ⟨10, 4⟩] ∧ L2 = [⟨1, 0, 10, 3⟩] := by
  have hr : rightOf 4 ⟨2, 5, 9, 2⟩ = true := by decide
  have he : addErr [⟨0, 1⟩, ⟨10, 4⟩] 5 9 (-2) = 70 := by decide
  obtain ⟨_, h2, h3 | h3⟩ := h.take_inv rfl
  · obtain ⟨h5, h6, h4 | h4 | h4 | h4⟩ := h3
    · rw [hr] at h4; simp at h4
    · obtain ⟨_, ⟨x, hx, hid⟩, _⟩ := h4; simp at hx; subst hx; simp at hid
    · simp at h4
    · exact ⟨h4.2.2.2.2, h2, h5, h6⟩
  · have h5 := h3.2.2.2.2.1
    simp only at h5
    rw [he] at h5
    cases h5
theorem known3 {ids : List Int} {err : Int} {up2 fr2 : List Step} {L2 : List Slot} (h : DoStep 4 [⟨0, 4⟩] [⟨0, 1⟩, ⟨10, 4⟩] [⟨1, 0, 10, 3⟩] ⟨5, ⟨0, 3, 4, 2⟩⟩ ids err up2 fr2 L2) : ids = [1] ∧ err = 0 := by
  have ha : outArg 4 3 4 2 = true := by decide
  have hu : outUp [⟨0, 4⟩] 3 4 2 = [⟨0, 4⟩, ⟨3, 2⟩, ⟨4, 4⟩] := by decide
  rcases h.out_inv rfl with ⟨_, _, _, _, h3 | h3⟩ | h3
  · simp only at h3; rw [ha] at h3; simp at h3
  · simp only at h3; rw [hu] at h3; simp at h3
  · obtain ⟨h4, _, _, h5, G, dn, hg, hz, hp, hids, hfr⟩ := h3
    simp only at h5
    rw [hu] at h5
    subst h5
    have hv : Valid [⟨0, 4⟩, ⟨3, 2⟩, ⟨4, 4⟩] := chk_iff.1 (by decide)
    have hsub := hg.sub
    have hL : L2 = [] := by
      rcases List.sublist_cons_iff.1 hsub with h6 | ⟨r, h6, h7⟩
      · exact List.sublist_nil.1 h6
      · have := List.sublist_nil.1 h7
        subst this
        subst h6
        have := hz.fits (n := 4) hv (by intro s hs; simp at hs; subst hs; decide) 3 (by decide)
        exact absurd this (by decide)
    subst hL
    have hlen := hg.len (by simp)
    simp at hlen
    have hfrom := hg.from
    match G, hlen with
    | [g], _ =>
      obtain ⟨s, hs, hsi⟩ := hfrom g (by simp)
      simp at hs
      subst hs
      simp at hsi
      subst hsi
      exact ⟨by rw [hids]; simp, h4⟩

end Go.Proofs.Ytjknmnmilladlaa
