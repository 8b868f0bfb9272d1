/-
  Plain: a book that one reservation of all its nodes fills. No program here.
-/
import Derived.Test.YtjknmnmilladlaaP13
import Derived.Test.YtjknmnmilladlaaW25
namespace Go.Proofs.Ytjknmnmilladlaa

theorem val_one (n t : Int) : val [⟨0, n⟩] t = n := by
  unfold val plc
  simp [plcN, frv]

/-- the first reservation fits -/
theorem new1 {n f t : Int} (h1 : 1 ≤ n) (h2 : n ≤ 10000) (h3 : 0 ≤ f) (h4 : f < t) (h5 : t ≤ 1099511627775) {err : Int} {up2 fr2 : List Step} {L2 : List Slot} (h : DoStep n [⟨0, n⟩] [⟨0, n⟩] [] ⟨1, ⟨1, f, t, n⟩⟩ [] err up2 fr2 L2) :
    err = 0 ∧ up2 = [⟨0, n⟩] ∧ L2 = [⟨1, f, t, n⟩] ∧ Inv n [⟨0, n⟩] fr2 [⟨1, f, t, n⟩] := by
  have hI := Inv.new h1 h2
  have hr : rightOf n ⟨1, f, t, n⟩ = true := right_iff.2 ⟨by simp, ⟨h3, by simp only; omega⟩, ⟨by simp only; omega, h5⟩, h4, h1, Int.le_refl _⟩
  have he : addErr [⟨0, n⟩] f t (-n) = 0 := (hI.room hr).1.2 (fun x _ _ => by rw [val_one]; exact Int.le_refl _)
  have hI2 := h.inv hI
  obtain ⟨_, hu, h6 | h6⟩ := h.take_inv rfl
  · obtain ⟨_, _, h7 | h7 | h7 | h7⟩ := h6
    · simp only at h7; rw [hr] at h7; simp at h7
    · obtain ⟨_, ⟨x, hx, _⟩, _⟩ := h7; simp at hx
    · simp at h7
    · exact absurd he h7.2.2.2.1
  · obtain ⟨h7, _, _, _, _, h8, h9⟩ := h6
    simp only [List.nil_append] at h9
    subst hu
    subst h9
    exact ⟨h7, rfl, rfl, hI2⟩
theorem new1_val {n f t : Int} {fr2 : List Step} (hI : Inv n [⟨0, n⟩] fr2 [⟨1, f, t, n⟩]) {x : Int} (h0 : 0 ≤ f) (h1 : f ≤ x) (h2 : x < t) : val fr2 x = 0 := by
  rw [hI.eq x (by omega), val_one]
  simp only [loadOf, covS, List.foldl_cons, List.foldl_nil]
  rw [if_pos ⟨h1, h2⟩]
  omega
/-- no other one does -/
theorem new2 {n f t : Int} (h1 : 1 ≤ n) (h3 : 0 ≤ f) (h4 : f < t) (h5 : t ≤ 1099511627775) {fr : List Step} (hI : Inv n [⟨0, n⟩] fr [⟨1, f, t, n⟩]) {err : Int} {up2 fr2 : List Step} {L2 : List Slot} (h : DoStep n [⟨0, n⟩] fr [⟨1, f, t, n⟩] ⟨1, ⟨2, f, f + 1, 1⟩⟩ [] err up2 fr2 L2) :
    err = 70 ∧ up2 = [⟨0, n⟩] ∧ fr2 = fr ∧ L2 = [⟨1, f, t, n⟩] := by
  have hr : rightOf n ⟨2, f, f + 1, 1⟩ = true := right_iff.2 ⟨by simp, ⟨h3, by simp only; omega⟩, ⟨by simp only; omega, by simp only; omega⟩, by simp only; omega, Int.le_refl _, h1⟩
  have he : addErr fr f (f + 1) (-1) ≠ 0 := by
    intro he
    have h6 := (hI.room hr).1.1 he f (Int.le_refl _) (by simp only; omega)
    rw [new1_val hI h3 (Int.le_refl _) h4] at h6
    simp at h6
  obtain ⟨_, hu, h6 | h6⟩ := h.take_inv rfl
  · obtain ⟨h8, h9, h7 | h7 | h7 | h7⟩ := h6
    · simp only at h7; rw [hr] at h7; simp at h7
    · obtain ⟨_, ⟨x, hx, hid⟩, _⟩ := h7; simp at hx; subst hx; simp at hid
    · simp at h7
    · exact ⟨h7.2.2.2.2, hu, h8, h9⟩
  · exact absurd h6.2.2.2.2.1 he
/-- the first one gone, all is as it was -/
theorem new3 {n f t : Int} {fr : List Step} (hI : Inv n [⟨0, n⟩] fr [⟨1, f, t, n⟩]) {d : Do} (hk : d.kind = 2) (hid : d.s.id = 1) {err : Int} {up2 fr2 : List Step} {L2 : List Slot} (h : DoStep n [⟨0, n⟩] fr [⟨1, f, t, n⟩] d [] err up2 fr2 L2) :
    err = 0 ∧ fr2 = [⟨0, n⟩] ∧ up2 = [⟨0, n⟩] ∧ L2 = [] := by
  have hI2 := h.inv hI
  obtain ⟨_, hu, h6 | h6⟩ := h.free_inv hk
  · exact absurd hid.symm (h6.2.2.1 ⟨1, f, t, n⟩ (by simp))
  · obtain ⟨h7, s, hs, _, h8, h9⟩ := h6
    simp at hs
    subst hs
    have hL : L2 = [] := by rw [h9]; rfl
    subst hL
    subst hu
    refine ⟨h7, valid_eq hI2.vf hI2.vu fun x hx => ?_, rfl, rfl⟩
    rw [hI2.eq x hx]
    simp [loadOf]

end Go.Proofs.Ytjknmnmilladlaa
