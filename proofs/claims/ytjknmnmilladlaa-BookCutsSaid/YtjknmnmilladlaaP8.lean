/-
  Plain: Tidy keeps what a profile says; Add's result is a profile. No program here.
-/
import Derived.Test.YtjknmnmilladlaaP5
namespace Go.Proofs.Ytjknmnmilladlaa

theorem lastFree_snoc (l : List Step) (s : Step) : lastFree (l ++ [s]) = s.free := by
  unfold lastFree frv
  simp
theorem vf_all {d t : Int} {l : List Step} (hn : 0 < l.length) (h : ∀ s ∈ l, s.at_ ≤ t) : vf d l t = lastFree l := by
  obtain ⟨m, s, rfl⟩ : ∃ m s, l = m ++ [s] := ⟨l.dropLast, l.getLast (List.length_pos_iff.1 hn), (List.dropLast_concat_getLast (List.length_pos_iff.1 hn)).symm⟩
  rw [vf_append, vf_cons, if_pos (h s (by simp)), vf_nil, lastFree_snoc]

theorem tidyStep_sub (out : List Step) (s : Step) : (tidyStep out s).Sublist (out ++ [s]) := by
  unfold tidyStep
  split
  · exact List.sublist_append_left _ _
  · exact List.Sublist.refl _
theorem foldl_tidy_sub (l out : List Step) : (l.foldl tidyStep out).Sublist (out ++ l) := by
  induction l generalizing out with
  | nil => simp
  | cons a l ih =>
    rw [List.foldl_cons]
    refine (ih _).trans ?_
    have := (tidyStep_sub out a).append (List.Sublist.refl l)
    simpa using this
theorem tidy_sub (l : List Step) : (tidy l).Sublist l := by simpa [tidy] using foldl_tidy_sub l []

theorem foldl_tidy_vf {l out : List Step} (d t : Int) (h : Rises (out ++ l)) : vf d (l.foldl tidyStep out) t = vf (vf d out t) l t := by
  induction l generalizing out with
  | nil => rfl
  | cons a l ih =>
    rw [List.foldl_cons]
    have hr : Rises (tidyStep out a ++ l) := by
      refine List.Pairwise.sublist ?_ h
      have := (tidyStep_sub out a).append (List.Sublist.refl l)
      simpa using this
    rw [ih hr, vf_cons]
    congr 1
    have hlt : ∀ s ∈ out, s.at_ < a.at_ := by
      intro s hs
      unfold Rises at h
      rw [List.pairwise_append] at h
      exact h.2.2 s hs a List.mem_cons_self
    unfold tidyStep
    split
    · rename_i hc
      by_cases ha : a.at_ ≤ t
      · rw [if_pos ha, vf_all hc.1 (fun s hs => by have := hlt s hs; omega), hc.2]
      · rw [if_neg ha]
    · rw [vf_append]; rfl
theorem tidy_vf {l : List Step} (d t : Int) (h : Rises l) : vf d (tidy l) t = vf d l t := foldl_tidy_vf (out := []) d t (by simpa using h)

def Alt (l : List Step) : Prop := ∀ i, i + 1 < l.length → frv l (i + 1) ≠ frv l i
theorem Alt.step {out : List Step} (h : Alt out) (s : Step) : Alt (tidyStep out s) := by
  unfold tidyStep
  split
  · exact h
  · rename_i hc
    intro i hi
    simp at hi
    by_cases hl : i + 1 < out.length
    · have h1 := h i hl
      unfold frv at h1 ⊢
      simp only [List.getD_eq_getElem?_getD] at h1 ⊢
      rw [List.getElem?_append_left hl, List.getElem?_append_left (by omega)]
      exact h1
    · have he : i + 1 = out.length := by omega
      have h1 : frv (out ++ [s]) (i + 1) = s.free := by unfold frv; simp [he]
      have h2 : frv (out ++ [s]) i = lastFree out := by
        unfold lastFree frv
        simp only [List.getD_eq_getElem?_getD]
        rw [List.getElem?_append_left (by omega), show out.length - 1 = i by omega]
      rw [h1, h2]
      intro e
      exact hc ⟨by omega, e.symm⟩
theorem foldl_alt {l out : List Step} (h : Alt out) : Alt (l.foldl tidyStep out) := by
  induction l generalizing out with
  | nil => exact h
  | cons a l ih => rw [List.foldl_cons]; exact ih (h.step a)
theorem tidy_alt (l : List Step) : Alt (tidy l) := foldl_alt (by intro i hi; simp at hi)
theorem foldl_tidy_pre (l out : List Step) : ∃ r, l.foldl tidyStep out = out ++ r := by
  induction l generalizing out with
  | nil => exact ⟨[], by simp⟩
  | cons a l ih =>
    rw [List.foldl_cons]
    obtain ⟨r, hr⟩ := ih (tidyStep out a)
    rw [hr]
    unfold tidyStep
    split
    · exact ⟨r, rfl⟩
    · exact ⟨a :: r, by simp⟩
theorem tidy_head (a : Step) (l : List Step) : ∃ r, tidy (a :: l) = a :: r := by
  obtain ⟨r, hr⟩ := foldl_tidy_pre l [a]
  refine ⟨r, ?_⟩
  unfold tidy
  rw [List.foldl_cons]
  simpa [tidyStep] using hr

theorem tidy_valid {l : List Step} (hr : Rises l) (hn : 0 < l.length) (h0 : atv l 0 = 0) (hlen : (tidy l).length ≤ 20000) (hm : ∀ s ∈ l, (0 ≤ s.at_ ∧ s.at_ ≤ 1099511627775) ∧ 0 ≤ s.free ∧ s.free ≤ 10000) : Valid (tidy l) := by
  have hrt : Rises (tidy l) := List.Pairwise.sublist (tidy_sub l) hr
  have hri := (rises_iff _).1 hrt
  have hsub := (tidy_sub l).subset
  have hmt : ∀ i, i < (tidy l).length → (0 ≤ atv (tidy l) i ∧ atv (tidy l) i ≤ 1099511627775) ∧ 0 ≤ frv (tidy l) i ∧ frv (tidy l) i ≤ 10000 := by
    intro i hi
    have := hm _ (hsub (List.getElem_mem hi))
    rw [stepAt _ i hi] at this
    exact this
  have hhead : 0 < (tidy l).length ∧ atv (tidy l) 0 = 0 := by
    cases l with
    | nil => simp at hn
    | cons a l =>
      obtain ⟨r, hr⟩ := tidy_head a l
      rw [hr]
      exact ⟨by simp, h0⟩
  exact ⟨hhead.1, hlen, hhead.2, fun i hi => (hmt i hi).1, fun i hi => (hmt i hi).2, fun i hi => ⟨hri i (i + 1) (by omega) hi, tidy_alt l i hi⟩⟩

theorem addErr_iff {l : List Step} (h : Valid l) {frm to k : Int} (hp : pOk frm to k = true) (hne : frm ≠ to) : addErr l frm to k = 0 ↔ (cutL l frm to).all (fun s => inRange (s.free + k)) = true ∧ (tidy (addRaw l frm to k)).length ≤ 20000 := by
  unfold addErr
  rw [if_neg (by rw [chk_iff.2 h]; simp), if_neg (by rw [hp]; simp), if_neg hne]
  by_cases h1 : (cutL l frm to).all (fun s => inRange (s.free + k)) = true
  · rw [if_neg (by rw [h1]; simp)]
    by_cases h2 : 20000 < (tidy (addRaw l frm to k)).length
    · rw [if_pos h2]
      simp
      omega
    · rw [if_neg h2]
      simp only [true_iff]
      exact ⟨h1, by omega⟩
  · rw [if_pos (by simpa using h1)]
    simp [h1]
theorem pOk_iff {frm to k : Int} : pOk frm to k = true ↔ (0 ≤ frm ∧ frm ≤ 1099511627775) ∧ (0 ≤ to ∧ to ≤ 1099511627775) ∧ frm ≤ to ∧ -10000 ≤ k ∧ k ≤ 10000 := by
  unfold pOk
  simp only [Bool.and_eq_true, isT_iff, decide_eq_true_eq, and_assoc]
theorem addErr_pOk {l : List Step} (h : Valid l) {frm to k : Int} (he : addErr l frm to k = 0) : pOk frm to k = true := by
  unfold addErr at he
  rw [if_neg (by rw [chk_iff.2 h]; simp)] at he
  by_cases hp : pOk frm to k = false
  · rw [if_pos hp] at he; cases he
  · simpa using hp

theorem addRaw_zero {l : List Step} (h : Valid l) {frm to k : Int} (h0 : 0 ≤ frm) (h1 : frm < to) : atv (addRaw l frm to k) 0 = 0 := by
  unfold addRaw
  have hpos := h.pos
  by_cases hp : preN l frm = 0
  · have hpl : plc l frm = 0 ∧ frm = 0 := by
      unfold preN at hp
      split at hp
      · rename_i he
        rw [hp] at he
        exact ⟨hp, by rw [← he, h.zero]⟩
      · omega
    have hne : cutL l frm to = ⟨frm, frv l (plc l frm)⟩ :: cutI l frm (plc l frm + 1) (plc l (to - 1) + 1) := by
      have a2 := (h.plc h0).2.1
      have := h.plc_mono h0 (show frm ≤ to - 1 by omega)
      unfold cutL cutI
      rw [show plc l (to - 1) + 1 - plc l frm = (plc l (to - 1) + 1 - (plc l frm + 1)) + 1 by omega, List.range'_succ, List.map_cons]
      congr 2
      omega
    rw [hp, hne]
    simp [atv, plus, hpl.2]
  · have hz := h.zero
    unfold atv at hz ⊢
    rw [List.getD_eq_getElem?_getD] at hz ⊢
    rw [List.append_assoc, List.append_assoc, List.getElem?_append_left (by simp; omega), List.getElem?_take, if_pos (by omega)]
    exact hz

/-- WHAT ADD MAKES. -/
theorem add_ok {l : List Step} (h : Valid l) {frm to k : Int} (he : addErr l frm to k = 0) :
    Valid (addRes l frm to k) ∧ ∀ t, 0 ≤ t → val (addRes l frm to k) t = val l t + if frm ≤ t ∧ t < to then k else 0 := by
  have hp := addErr_pOk h he
  have hpp := pOk_iff.1 hp
  unfold addRes
  rw [if_pos he]
  by_cases hne : frm = to
  · rw [if_pos hne]
    refine ⟨h, fun t _ => ?_⟩
    rw [if_neg (by omega)]
    omega
  · rw [if_neg hne]
    obtain ⟨h1, h2⟩ := (addErr_iff h hp hne).1 he
    have hlt : frm < to := by omega
    have hr := addRaw_rises (k := k) h hpp.1.1 hlt
    have hV : Valid (tidy (addRaw l frm to k)) := by
      refine tidy_valid hr (addRaw_len h hpp.1.1 hlt).1 (addRaw_zero h hpp.1.1 hlt) h2 ?_
      intro s hs
      have hl : ∀ i, i < l.length → ((0 ≤ atv l i ∧ atv l i ≤ 1099511627775) ∧ 0 ≤ frv l i ∧ frv l i ≤ 10000) := fun i hi => ⟨h.time i hi, h.fr i hi⟩
      unfold addRaw at hs
      rw [List.mem_append, List.mem_append, List.mem_append] at hs
      rcases hs with ((hs | hs) | hs) | hs
      · obtain ⟨i, hi, hi2, rfl⟩ := mem_take_at hs
        exact hl i hi2
      · rw [List.mem_map] at hs
        obtain ⟨x, hx, rfl⟩ := hs
        have h3 := cut_between h hpp.1.1 hlt hx
        rw [List.all_eq_true] at h1
        have h4 := h1 x hx
        unfold inRange at h4
        unfold plus
        simp only [decide_eq_true_eq] at h4 ⊢
        exact ⟨by omega, h4⟩
      · simp at hs
        subst hs
        exact ⟨hpp.2.1, h.val_range hpp.2.1.1⟩
      · obtain ⟨i, hi, hi2, rfl⟩ := mem_drop_at hs
        exact hl i hi2
    refine ⟨hV, fun t ht => ?_⟩
    rw [← hV.vf ht 0, tidy_vf 0 t hr, addRaw_vf h hpp.1.1 hlt ht]

/-- When there is room. -/
theorem add_room {l : List Step} (h : Valid l) {frm to k : Int} (h0 : 0 ≤ frm) (h1 : frm < to) (h2 : to ≤ 1099511627775) (hk : -10000 ≤ k ∧ k ≤ 10000) (hlen : l.length ≤ 19998) :
    (addErr l frm to k = 0 ↔ ∀ t, frm ≤ t → t < to → 0 ≤ val l t + k ∧ val l t + k ≤ 10000) := by
  have hp : pOk frm to k = true := pOk_iff.2 ⟨⟨h0, by omega⟩, ⟨by omega, h2⟩, by omega, hk.1, hk.2⟩
  have hl := (addRaw_len (k := k) h h0 h1).2
  have ht := length_tidyN (addRaw l frm to k) (addRaw l frm to k).length
  rw [tidyN_all] at ht
  rw [addErr_iff h hp (by omega), List.all_eq_true]
  constructor
  · rintro ⟨ha, _⟩ t ht1 ht2
    -- the step that holds at t lies in the cut
    have hpm := h.plc_mono h0 ht1
    have hpm2 := h.plc_mono (show 0 ≤ t by omega) (show t ≤ to - 1 by omega)
    have hx : (⟨max (atv l (plc l t)) frm, frv l (plc l t)⟩ : Step) ∈ cutL l frm to := by
      unfold cutL cutI
      rw [List.mem_map]
      exact ⟨plc l t, by rw [List.mem_range'_1]; omega, rfl⟩
    have := ha _ hx
    unfold inRange at this
    unfold val
    simpa using this
  · intro ha
    refine ⟨fun x hx => ?_, by omega⟩
    obtain ⟨i, hi1, hi2, rfl⟩ := mem_cutI hx
    have hb := cut_between h h0 h1 hx
    have hil : i < l.length := by have := (h.plc (show 0 ≤ to - 1 by omega)).1; omega
    have hval : val l (max (atv l i) frm) = frv l i := by
      unfold val
      rw [plc_eq hil (by omega) (fun z h3 h4 => ?_)]
      have h5 := h.rise i z h3 h4
      have h6 := (h.plc h0).2.2 z (by omega) h4
      omega
    have := ha _ hb.1 hb.2
    simp only at this
    rw [hval] at this
    unfold inRange
    simpa using this

end Go.Proofs.Ytjknmnmilladlaa
