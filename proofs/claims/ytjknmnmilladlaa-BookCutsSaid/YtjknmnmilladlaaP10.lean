/-
  Plain: what holds of a book at all times, and that each step keeps it. No program here.
-/
import Derived.Test.YtjknmnmilladlaaP9
import Derived.Test.YtjknmnmilladlaaW16
namespace Go.Proofs.Ytjknmnmilladlaa

structure Inv (n : Int) (up fr : List Step) (L : List Slot) : Prop where
  n1 : 1 ≤ n ∧ n ≤ 10000
  vu : Valid up
  ul : up.length ≤ 1000
  vf : Valid fr
  rt : ∀ s ∈ L, rightOf n s = true
  ids : L.Pairwise fun a b => a.id ≠ b.id
  len : L.length ≤ 9000
  eq : ∀ t, 0 ≤ t → val fr t = val up t - loadOf L t

theorem right_iff {n : Int} {s : Slot} : rightOf n s = true ↔ 1 ≤ s.id ∧ (0 ≤ s.frm ∧ s.frm ≤ 1099511627775) ∧ (0 ≤ s.to ∧ s.to ≤ 1099511627775) ∧ s.frm < s.to ∧ 1 ≤ s.nodes ∧ s.nodes ≤ n := by
  unfold rightOf
  simp only [Bool.and_eq_true, isT_iff, decide_eq_true_eq, and_assoc]
theorem Inv.nodes {n : Int} {up fr : List Step} {L : List Slot} (h : Inv n up fr L) : ∀ s ∈ L, 1 ≤ s.nodes ∧ s.nodes ≤ 10000 := by
  intro s hs
  have := right_iff.1 (h.rt s hs)
  have := h.n1
  omega
theorem Inv.flen {n : Int} {up fr : List Step} {L : List Slot} (h : Inv n up fr L) : fr.length ≤ 19000 := by
  have := len_bound h.vf h.vu h.eq
  have := h.ul
  have := h.len
  omega

theorem load_without {L : List Slot} (h : L.Pairwise fun a b => a.id ≠ b.id) {s : Slot} (hs : s ∈ L) (t : Int) : loadOf L t = covS t s + loadOf (without L s.id) t := by
  induction L with
  | nil => simp at hs
  | cons a L ih =>
    obtain ⟨h1, h2⟩ := List.pairwise_cons.1 h
    unfold without
    rcases List.mem_cons.1 hs with rfl | hs'
    · rw [List.filter_cons_of_neg (by simp), loadOf_cons]
      congr 2
      symm
      rw [List.filter_eq_self]
      intro x hx
      have := h1 x hx
      simp
      omega
    · have hne : a.id ≠ s.id := h1 s hs'
      rw [List.filter_cons_of_pos (by simpa using hne), loadOf_cons, loadOf_cons]
      have := ih h2 hs'
      unfold without at this
      omega
theorem without_sub (L : List Slot) (id : Int) : (without L id).Sublist L := List.filter_sublist
theorem without_lt {L : List Slot} {s : Slot} (hs : s ∈ L) : (without L s.id).length < L.length := by
  unfold without
  have := List.length_filter_lt_length_iff_exists (l := L) (p := fun x => decide (x.id ≠ s.id))
  rw [this]
  exact ⟨s, hs, by simp⟩
theorem load_nonneg {L : List Slot} (h : ∀ s ∈ L, 1 ≤ s.nodes ∧ s.nodes ≤ 10000) (t : Int) : 0 ≤ loadOf L t := (loadOf_bound h t).1

/-- drop. -/
theorem Inv.drop {n : Int} {up fr : List Step} {L : List Slot} (h : Inv n up fr L) {s : Slot} (hs : s ∈ L) :
    addErr fr s.frm s.to s.nodes = 0 ∧ Inv n up (addRes fr s.frm s.to s.nodes) (without L s.id) ∧ ∀ t, 0 ≤ t → val (addRes fr s.frm s.to s.nodes) t = val fr t + if s.frm ≤ t ∧ t < s.to then s.nodes else 0 := by
  have hr := right_iff.1 (h.rt s hs)
  have hn := h.n1
  have hsub : ∀ x ∈ without L s.id, x ∈ L := fun x hx => (without_sub L s.id).subset hx
  have hwn : ∀ x ∈ without L s.id, 1 ≤ x.nodes ∧ x.nodes ≤ 10000 := fun x hx => h.nodes x (hsub x hx)
  have he : addErr fr s.frm s.to s.nodes = 0 := by
    rw [add_room h.vf hr.2.1.1 hr.2.2.2.1 hr.2.2.1.2 ⟨by omega, by omega⟩ (by have := h.flen; omega)]
    intro t h1 h2
    have h3 := h.eq t (by omega)
    have h4 := load_without h.ids hs t
    have h5 : covS t s = s.nodes := by unfold covS; rw [if_pos ⟨h1, h2⟩]
    have h6 := load_nonneg hwn t
    have h7 := h.vu.val_range (t := t) (by omega)
    have h8 := h.vf.val_range (t := t) (by omega)
    omega
  obtain ⟨hv, hval⟩ := add_ok h.vf he
  refine ⟨he, ⟨h.n1, h.vu, h.ul, hv, fun x hx => h.rt x (hsub x hx), h.ids.sublist (without_sub L s.id), Nat.le_trans (without_sub L s.id).length_le h.len, fun t ht => ?_⟩, hval⟩
  have h1 := hval t ht
  have h2 := h.eq t ht
  have h3 := load_without h.ids hs t
  have h4 : covS t s = if s.frm ≤ t ∧ t < s.to then s.nodes else 0 := rfl
  omega
/-- lay, where there is room. -/
theorem Inv.lay {n : Int} {up fr : List Step} {L : List Slot} (h : Inv n up fr L) {s : Slot} (hr : rightOf n s = true) (hs : ∀ x ∈ L, x.id ≠ s.id) (hl : L.length < 9000) (he : addErr fr s.frm s.to (-s.nodes) = 0) :
    Inv n up (addRes fr s.frm s.to (-s.nodes)) (L ++ [s]) ∧ ∀ t, 0 ≤ t → val (addRes fr s.frm s.to (-s.nodes)) t = val fr t - if s.frm ≤ t ∧ t < s.to then s.nodes else 0 := by
  obtain ⟨hv, hval⟩ := add_ok h.vf he
  have hval' : ∀ t, 0 ≤ t → val (addRes fr s.frm s.to (-s.nodes)) t = val fr t - if s.frm ≤ t ∧ t < s.to then s.nodes else 0 := by
    intro t ht
    have := hval t ht
    by_cases hc : s.frm ≤ t ∧ t < s.to
    · rw [if_pos hc] at this ⊢; omega
    · rw [if_neg hc] at this ⊢; omega
  refine ⟨⟨h.n1, h.vu, h.ul, hv, ?_, ?_, by simp; omega, fun t ht => ?_⟩, hval'⟩
  · intro x hx
    rw [List.mem_append] at hx
    rcases hx with hx | hx
    · exact h.rt x hx
    · simp at hx; subst hx; exact hr
  · rw [List.pairwise_append]
    exact ⟨h.ids, by simp, fun a ha b hb => by simp at hb; subst hb; exact hs a ha⟩
  · have h1 := hval' t ht
    have h2 := h.eq t ht
    have h3 := loadOf_snoc L s t
    have h4 : covS t s = if s.frm ≤ t ∧ t < s.to then s.nodes else 0 := rfl
    omega
/-- Is there room? -/
theorem Inv.room {n : Int} {up fr : List Step} {L : List Slot} (h : Inv n up fr L) {s : Slot} (hr : rightOf n s = true) :
    (addErr fr s.frm s.to (-s.nodes) = 0 ↔ ∀ t, s.frm ≤ t → t < s.to → s.nodes ≤ val fr t) ∧ (addErr fr s.frm s.to (-s.nodes) ≠ 0 → addErr fr s.frm s.to (-s.nodes) = 70) := by
  have hr := right_iff.1 hr
  have hn := h.n1
  have hfl := h.flen
  constructor
  · rw [add_room h.vf hr.2.1.1 hr.2.2.2.1 hr.2.2.1.2 ⟨by omega, by omega⟩ (by omega)]
    constructor
    · intro ha t h1 h2
      have := ha t h1 h2
      omega
    · intro ha t h1 h2
      have := ha t h1 h2
      have := h.vf.val_range (t := t) (by omega)
      omega
  · intro hne
    have hp : pOk s.frm s.to (-s.nodes) = true := pOk_iff.2 ⟨hr.2.1, hr.2.2.1, by omega, by omega, by omega⟩
    have hl := (addRaw_len (k := -s.nodes) h.vf hr.2.1.1 hr.2.2.2.1).2
    have ht := length_tidyN (addRaw fr s.frm s.to (-s.nodes)) (addRaw fr s.frm s.to (-s.nodes)).length
    rw [tidyN_all] at ht
    unfold addErr at hne ⊢
    rw [if_neg (by rw [chk_iff.2 h.vf]; simp), if_neg (by rw [hp]; simp), if_neg (by omega)] at hne ⊢
    split
    · rfl
    · rename_i hc
      rw [if_neg hc, if_neg (by omega)] at hne
      exact absurd rfl hne
/-- A slot that was there fits again, or a shorter one. -/
theorem Inv.again {n : Int} {up fr : List Step} {L : List Slot} (h : Inv n up fr L) {s : Slot} (hs : s ∈ L) (to : Int) (h1 : s.frm < to) (h2 : to ≤ s.to) : addErr (addRes fr s.frm s.to s.nodes) s.frm to (-s.nodes) = 0 := by
  obtain ⟨_, hI, hv⟩ := h.drop hs
  have hr := right_iff.1 (h.rt s hs)
  have hr2 : rightOf n ⟨s.id, s.frm, to, s.nodes⟩ = true := right_iff.2 ⟨hr.1, hr.2.1, ⟨by simp only; omega, by simp only; omega⟩, h1, hr.2.2.2.2⟩
  refine (hI.room hr2).1.2 fun t h3 h4 => ?_
  simp only at h3 h4 ⊢
  have h5 := hv t (by omega)
  rw [if_pos (by omega)] at h5
  have := h.vf.val_range (t := t) (by omega)
  omega
theorem Inv.new {n : Int} (h : 1 ≤ n) (h2 : n ≤ 10000) : Inv n [⟨0, n⟩] [⟨0, n⟩] [] := by
  have hv : Valid [⟨0, n⟩] := ⟨by simp, by simp, rfl, fun i hi => by simp at hi; subst hi; simp [atv], fun i hi => by simp at hi; subst hi; simp [frv]; omega, fun i hi => by simp at hi⟩
  exact ⟨⟨h, h2⟩, hv, by simp, hv, by simp, by simp, by simp, fun t ht => by simp [loadOf]⟩

end Go.Proofs.Ytjknmnmilladlaa
