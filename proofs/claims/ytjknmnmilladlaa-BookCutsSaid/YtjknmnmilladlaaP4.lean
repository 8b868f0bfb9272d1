/-
  Plain: the steps that Add lays together rise. No program here.
-/
import Derived.Test.YtjknmnmilladlaaP3
namespace Go.Proofs.Ytjknmnmilladlaa

def Rises (l : List Step) : Prop := l.Pairwise fun a b => a.at_ < b.at_

theorem rises_iff (l : List Step) : Rises l ↔ ∀ i j, i < j → j < l.length → atv l i < atv l j := by
  unfold Rises
  rw [List.pairwise_iff_getElem]
  constructor
  · intro h i j hij hj
    have := h i j (by omega) hj hij
    rw [stepAt l i (by omega), stepAt l j hj] at this
    exact this
  · intro h i j hi hj hij
    rw [stepAt l i hi, stepAt l j hj]
    exact h i j hij hj

theorem Valid.rises {l : List Step} (h : Valid l) : Rises l := (rises_iff l).2 h.rise

theorem mem_take_at {l : List Step} {u : Nat} {s : Step} (h : s ∈ l.take u) : ∃ i, i < u ∧ i < l.length ∧ s = ⟨atv l i, frv l i⟩ := by
  obtain ⟨i, hi, rfl⟩ := List.getElem_of_mem h
  rw [List.length_take] at hi
  exact ⟨i, by omega, by omega, by rw [List.getElem_take, stepAt l i (by omega)]⟩
theorem mem_drop_at {l : List Step} {u : Nat} {s : Step} (h : s ∈ l.drop u) : ∃ i, u ≤ i ∧ i < l.length ∧ s = ⟨atv l i, frv l i⟩ := by
  obtain ⟨i, hi, rfl⟩ := List.getElem_of_mem h
  simp at hi
  exact ⟨u + i, by omega, by omega, by rw [List.getElem_drop, stepAt l (u + i) (by omega)]⟩
theorem mem_cutI {l : List Step} {frm : Int} {p q : Nat} {s : Step} (h : s ∈ cutI l frm p q) : ∃ i, p ≤ i ∧ i < q ∧ s = ⟨max (atv l i) frm, frv l i⟩ := by
  unfold cutI at h
  rw [List.mem_map] at h
  obtain ⟨i, hi, rfl⟩ := h
  rw [List.mem_range'_1] at hi
  exact ⟨i, hi.1, by omega, rfl⟩

theorem preN_at {l : List Step} (h : Valid l) {frm : Int} (h0 : 0 ≤ frm) : ∀ i, i < preN l frm → atv l i < frm := by
  intro i hi
  obtain ⟨a, b, c⟩ := h.plc h0
  unfold preN at hi
  split at hi
  · rename_i he
    have := h.rise i _ hi a
    omega
  · rename_i he
    rcases Nat.lt_or_ge i (plc l frm) with h1 | h1
    · have := h.rise i _ h1 a; omega
    · obtain rfl : i = plc l frm := by omega
      omega
theorem preN_le {l : List Step} (h : Valid l) {frm : Int} (h0 : 0 ≤ frm) : preN l frm ≤ l.length := by
  have := (h.plc h0).1
  unfold preN
  split <;> omega

theorem cut_between {l : List Step} (h : Valid l) {frm to : Int} (h0 : 0 ≤ frm) (h1 : frm < to) {s : Step} (hs : s ∈ cutL l frm to) : frm ≤ s.at_ ∧ s.at_ < to := by
  obtain ⟨i, hi1, hi2, rfl⟩ := mem_cutI hs
  obtain ⟨a, b, c⟩ := h.plc (show 0 ≤ to - 1 by omega)
  have : atv l i ≤ to - 1 := by
    rcases Nat.lt_or_ge i (plc l (to - 1)) with h2 | h2
    · have := h.rise i _ h2 a; omega
    · obtain rfl : i = plc l (to - 1) := by omega
      exact b
  constructor
  · show frm ≤ max (atv l i) frm
    omega
  · show max (atv l i) frm < to
    omega

theorem cut_rises {l : List Step} (h : Valid l) {frm to : Int} (h0 : 0 ≤ frm) (h1 : frm < to) : Rises (cutL l frm to) := by
  rw [rises_iff]
  intro i j hij hj
  have hq := (h.plc (show 0 ≤ to - 1 by omega)).1
  have hp := (h.plc h0)
  rw [length_cutL] at hj
  unfold cutL
  rw [(cutI_at l frm _ _ i (by omega)).1, (cutI_at l frm _ _ j hj).1]
  have h2 := h.rise (plc l frm + i) (plc l frm + j) (by omega) (by omega)
  have h3 := hp.2.2 (plc l frm + j) (by omega) (by omega)
  omega

theorem addRaw_rises {l : List Step} (h : Valid l) {frm to k : Int} (h0 : 0 ≤ frm) (h1 : frm < to) : Rises (addRaw l frm to k) := by
  unfold addRaw Rises
  have hq := h.plc (show 0 ≤ to by omega)
  have hcut : ∀ s ∈ (cutL l frm to).map (plus k), frm ≤ s.at_ ∧ s.at_ < to := by
    intro s hs
    rw [List.mem_map] at hs
    obtain ⟨x, hx, hxs⟩ := hs
    have := cut_between h h0 h1 hx
    rw [← hxs]
    exact this
  have hpre : ∀ s ∈ l.take (preN l frm), s.at_ < frm := by
    intro s hs
    obtain ⟨i, hi, _, rfl⟩ := mem_take_at hs
    exact preN_at h h0 i hi
  have hdrop : ∀ s ∈ l.drop (plc l to + 1), to < s.at_ := by
    intro s hs
    obtain ⟨i, hi, hi2, rfl⟩ := mem_drop_at hs
    exact hq.2.2 i (by omega) hi2
  rw [List.pairwise_append, List.pairwise_append, List.pairwise_append]
  refine ⟨⟨⟨?_, ?_, ?_⟩, ?_, ?_⟩, ?_, ?_⟩
  · exact h.rises.sublist (List.take_sublist _ _)
  · rw [List.pairwise_map]
    exact cut_rises h h0 h1
  · intro a ha b hb
    have := hpre a ha
    have := (hcut b hb).1
    omega
  · simp
  · intro a ha b hb
    simp at hb
    subst hb
    rw [List.mem_append] at ha
    rcases ha with ha | ha
    · have := hpre a ha
      show a.at_ < to
      omega
    · exact (hcut a ha).2
  · exact h.rises.sublist (List.drop_sublist _ _)
  · intro a ha b hb
    have h2 := hdrop b hb
    rw [List.mem_append, List.mem_append] at ha
    rcases ha with (ha | ha) | ha
    · have := hpre a ha; omega
    · have := (hcut a ha).2; omega
    · simp at ha; subst ha; exact h2

theorem addRaw_len {l : List Step} (h : Valid l) {frm to k : Int} (h0 : 0 ≤ frm) (h1 : frm < to) : 0 < (addRaw l frm to k).length ∧ (addRaw l frm to k).length ≤ l.length + 2 := by
  have c := (h.plc h0).1
  have c2 := (h.plc (show 0 ≤ to by omega)).1
  have d := h.plc_mono h0 (show frm ≤ to - 1 by omega)
  have d2 := h.plc_mono (show 0 ≤ to - 1 by omega) (show to - 1 ≤ to by omega)
  unfold addRaw
  simp only [List.length_append, List.length_map, List.length_take, List.length_drop, List.length_cons, List.length_nil, length_cutL]
  have e : preN l frm ≤ plc l frm + 1 := by unfold preN; split <;> omega
  have e4 : min (preN l frm) l.length ≤ plc l frm + 1 := Nat.le_trans (Nat.min_le_left _ _) e
  omega

end Go.Proofs.Ytjknmnmilladlaa
