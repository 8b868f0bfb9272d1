/-
  Plain: what Out leaves of what is not out. No program here.
-/
import Derived.Test.YtjknmnmilladlaaP10
namespace Go.Proofs.Ytjknmnmilladlaa

/-- The times between which Out takes nodes out. -/
def midT (up : List Step) (frm to : Int) : List Int := (stepT up).filter fun a => decide (frm < a) && decide (a < to)
def outT (up : List Step) (frm to : Int) : List Int := frm :: (midT up frm to ++ [to])
/-- how many, at a time -/
def outK (up : List Step) (k t : Int) : Int := min k (atOf up t)
def outN (up : List Step) (ts : List Int) (k : Int) : Nat → List Step
  | 0 => up
  | j + 1 => addRes (outN up ts k j) (inv ts j) (inv ts (j + 1)) (-(outK up k (inv ts j)))

theorem outT_rises {up : List Step} (h : Valid up) {frm to : Int} (h1 : frm < to) : (outT up frm to).Pairwise (· < ·) := by
  have hs : (stepT up).Pairwise (· < ·) := by
    have := h.rises
    unfold stepT
    rw [List.pairwise_map]
    exact this
  have hm : ∀ a ∈ midT up frm to, frm < a ∧ a < to := by
    intro a ha
    unfold midT at ha
    rw [List.mem_filter] at ha
    simpa using ha.2
  unfold outT
  rw [List.pairwise_cons, List.pairwise_append]
  refine ⟨?_, hs.filter _, by simp, ?_⟩
  · intro a ha
    rw [List.mem_append] at ha
    rcases ha with ha | ha
    · exact (hm a ha).1
    · simp at ha; subst ha; exact h1
  · intro a ha b hb
    simp at hb
    subst hb
    exact (hm a ha).2
theorem inv_lt {l : List Int} (h : l.Pairwise (· < ·)) : ∀ {i j : Nat}, i < j → j < l.length → inv l i < inv l j := by
  intro i j hij hj
  rw [List.pairwise_iff_getElem] at h
  have := h i j (by omega) hj hij
  simpa [inv, hj, show i < l.length by omega] using this
theorem inv_mem {l : List Int} {i : Nat} (h : i < l.length) : inv l i ∈ l := by
  unfold inv
  simp [h]
theorem mem_inv {l : List Int} {x : Int} (h : x ∈ l) : ∃ i, i < l.length ∧ inv l i = x := by
  obtain ⟨i, hi, rfl⟩ := List.getElem_of_mem h
  exact ⟨i, hi, by simp [inv, hi]⟩
theorem outT_len (up : List Step) (frm to : Int) : 2 ≤ (outT up frm to).length ∧ (outT up frm to).length ≤ up.length + 2 := by
  have := List.length_filter_le (fun a => decide (frm < a) && decide (a < to)) (stepT up)
  have h2 : (stepT up).length = up.length := by simp [stepT]
  unfold outT midT
  rw [List.length_cons, List.length_append, List.length_singleton]
  omega
theorem outT_first (up : List Step) (frm to : Int) : inv (outT up frm to) 0 = frm := rfl
theorem outT_last (up : List Step) (frm to : Int) : inv (outT up frm to) ((outT up frm to).length - 1) = to := by
  have hl : (outT up frm to).length - 1 = (midT up frm to).length + 1 := by unfold outT; simp
  rw [hl]
  unfold outT inv
  rw [List.getD_cons_succ, List.getD_eq_getElem?_getD, List.getElem?_append_right (Nat.le_refl _)]
  simp

/-- Between two of these times nothing changes. -/
theorem vf_between {l : List Step} {a t d : Int} (h : a ≤ t) (hn : ∀ x, a < x → x ≤ t → x ∉ stepT l) : vf d l t = vf d l a := by
  induction l generalizing d with
  | nil => rfl
  | cons s l ih =>
    rw [vf_cons, vf_cons]
    have : (if s.at_ ≤ t then s.free else d) = (if s.at_ ≤ a then s.free else d) := by
      by_cases h2 : s.at_ ≤ a
      · rw [if_pos h2, if_pos (by omega)]
      · by_cases h3 : s.at_ ≤ t
        · exact absurd (by simp [stepT]) (hn s.at_ (by omega) h3)
        · rw [if_neg h2, if_neg h3]
    rw [this]
    exact ih fun x h1 h2 hm => hn x h1 h2 (by unfold stepT at hm ⊢; rw [List.map_cons]; exact List.mem_cons_of_mem _ hm)

theorem atOf_val {up : List Step} (h : Valid up) {t : Int} (h0 : 0 ≤ t) (h1 : t ≤ 1099511627775) : atOf up t = val up t := by
  unfold atOf
  rw [if_pos ⟨chk_iff.2 h, isT_iff.2 ⟨h0, h1⟩⟩]
theorem atOf_range {up : List Step} (h : Valid up) (t : Int) : 0 ≤ atOf up t ∧ atOf up t ≤ 10000 := by
  unfold atOf
  split
  · rename_i hc
    exact h.val_range (isT_iff.1 hc.2).1
  · omega

theorem out_ok {up : List Step} (h : Valid up) (hul : up.length ≤ 1000) {frm to k : Int} (h0 : 0 ≤ frm) (h1 : frm < to) (h2 : to ≤ 1099511627775) (hk : 1 ≤ k ∧ k ≤ 10000) :
    ∀ j, j < (outT up frm to).length → (Valid (outN up (outT up frm to) k j) ∧ (outN up (outT up frm to) k j).length ≤ up.length + 2 * j ∧
      ∀ t, 0 ≤ t → val (outN up (outT up frm to) k j) t = val up t - if frm ≤ t ∧ t < inv (outT up frm to) j then min k (val up t) else 0) ∧
      (j + 1 < (outT up frm to).length → addErr (outN up (outT up frm to) k j) (inv (outT up frm to) j) (inv (outT up frm to) (j + 1)) (-(outK up k (inv (outT up frm to) j))) = 0) := by
  have hr := outT_rises h h1
  have hlen := outT_len up frm to
  have hfst := outT_first up frm to
  have hlst := outT_last up frm to
  have hbet : ∀ x, x ∈ stepT up → frm < x → x < to → x ∈ outT up frm to := by
    intro x hx h3 h4
    unfold outT midT
    rw [List.mem_cons, List.mem_append, List.mem_filter]
    exact .inr (.inl ⟨hx, by simp; exact ⟨h3, h4⟩⟩)
  generalize outT up frm to = ts at *
  have hge : ∀ i, i < ts.length → frm ≤ inv ts i := by
    intro i hi
    rcases Nat.eq_zero_or_pos i with rfl | hp
    · rw [hfst]; exact Int.le_refl _
    · have := inv_lt hr hp hi; omega
  have hle : ∀ i, i < ts.length → inv ts i ≤ to := by
    intro i hi
    by_cases hi2 : i = ts.length - 1
    · rw [hi2, hlst]; exact Int.le_refl _
    · have := inv_lt hr (i := i) (j := ts.length - 1) (by omega) (by omega); omega
  have hmid : ∀ j, j + 1 < ts.length → ∀ t, inv ts j ≤ t → t < inv ts (j + 1) → val up t = val up (inv ts j) := by
    intro j hj t ht1 ht2
    have hg := hge j (by omega)
    rw [← h.vf (by omega) 0, ← h.vf (by omega) 0]
    refine vf_between ht1 fun x hx1 hx2 hm => ?_
    have hl := hle (j + 1) hj
    obtain ⟨i, hi, rfl⟩ := mem_inv (hbet x hm (by omega) (by omega))
    rcases Nat.lt_or_ge j i with h3 | h3
    · rcases Nat.lt_or_ge (j + 1) i with h4 | h4
      · have := inv_lt hr h4 hi; omega
      · obtain rfl : i = j + 1 := by omega
        omega
    · rcases Nat.eq_or_lt_of_le h3 with rfl | h4
      · omega
      · have := inv_lt hr h4 (by omega); omega
  have hone : ∀ j, j + 1 < ts.length → (Valid (outN up ts k j) ∧ (outN up ts k j).length ≤ up.length + 2 * j ∧ ∀ t, 0 ≤ t → val (outN up ts k j) t = val up t - if frm ≤ t ∧ t < inv ts j then min k (val up t) else 0) →
      addErr (outN up ts k j) (inv ts j) (inv ts (j + 1)) (-(outK up k (inv ts j))) = 0 := by
    rintro j hj ⟨hv, hl, hval⟩
    have hg := hge j (by omega)
    have hl1 := hle (j + 1) hj
    have hlt : inv ts j < inv ts (j + 1) := inv_lt hr (Nat.lt_succ_self j) hj
    have hko : outK up k (inv ts j) = min k (val up (inv ts j)) := by unfold outK; rw [atOf_val h (by omega) (by omega)]
    have hvr := h.val_range (t := inv ts j) (by omega)
    rw [add_room hv (by omega) hlt (by omega) ⟨by omega, by omega⟩ (by omega)]
    intro t ht1 ht2
    have h3 := hval t (by omega)
    rw [if_neg (by omega)] at h3
    have h4 := hmid j hj t ht1 ht2
    omega
  intro j
  induction j with
  | zero =>
    intro hj
    have h3 : Valid (outN up ts k 0) ∧ (outN up ts k 0).length ≤ up.length + 2 * 0 ∧ ∀ t, 0 ≤ t → val (outN up ts k 0) t = val up t - if frm ≤ t ∧ t < inv ts 0 then min k (val up t) else 0 := by
      refine ⟨h, by simp [outN], fun t _ => ?_⟩
      rw [if_neg (by rw [hfst]; omega)]
      show val up t = _
      omega
    exact ⟨h3, fun hj1 => hone 0 hj1 h3⟩
  | succ j ih =>
    intro hj
    obtain ⟨h3, h4⟩ := ih (by omega)
    have he := h4 hj
    obtain ⟨hv, hl, hval⟩ := h3
    obtain ⟨hv2, hval2⟩ := add_ok hv he
    have hg := hge j (by omega)
    have hlt : inv ts j < inv ts (j + 1) := inv_lt hr (Nat.lt_succ_self j) hj
    have h5 : Valid (outN up ts k (j + 1)) ∧ (outN up ts k (j + 1)).length ≤ up.length + 2 * (j + 1) ∧ ∀ t, 0 ≤ t → val (outN up ts k (j + 1)) t = val up t - if frm ≤ t ∧ t < inv ts (j + 1) then min k (val up t) else 0 := by
      refine ⟨hv2, ?_, fun t ht => ?_⟩
      · show (addRes (outN up ts k j) (inv ts j) (inv ts (j + 1)) (-(outK up k (inv ts j)))).length ≤ _
        unfold addRes
        rw [if_pos he, if_neg (by omega)]
        have h6 := (addRaw_len (k := -(outK up k (inv ts j))) hv (by omega) hlt).2
        have h7 := length_tidyN (addRaw (outN up ts k j) (inv ts j) (inv ts (j + 1)) (-(outK up k (inv ts j)))) (addRaw (outN up ts k j) (inv ts j) (inv ts (j + 1)) (-(outK up k (inv ts j)))).length
        rw [tidyN_all] at h7
        omega
      · have h6 : val (outN up ts k (j + 1)) t = _ := hval2 t ht
        have h7 := hval t ht
        rw [h6, h7]
        by_cases hc : inv ts j ≤ t ∧ t < inv ts (j + 1)
        · rw [if_neg (by omega), if_pos hc, if_pos (by omega)]
          have h8 := hmid j hj t hc.1 hc.2
          have h9 : outK up k (inv ts j) = min k (val up (inv ts j)) := by
            unfold outK
            have := hle (j + 1) hj
            rw [atOf_val h (by omega) (by omega)]
          rw [h9, h8]
          omega
        · rw [if_neg hc]
          by_cases hd : frm ≤ t ∧ t < inv ts j
          · rw [if_pos hd, if_pos (by omega)]; omega
          · rw [if_neg hd, if_neg (by omega)]; omega
    exact ⟨h5, fun hj2 => hone (j + 1) hj2 h5⟩

/-- what is not out, behind Out -/
def outUp (up : List Step) (frm to k : Int) : List Step := outN up (outT up frm to) k ((outT up frm to).length - 1)
theorem outUp_ok {up : List Step} (h : Valid up) (hul : up.length ≤ 1000) {frm to k : Int} (h0 : 0 ≤ frm) (h1 : frm < to) (h2 : to ≤ 1099511627775) (hk : 1 ≤ k ∧ k ≤ 10000) :
    Valid (outUp up frm to k) ∧ (outUp up frm to k).length ≤ 4000 ∧ ∀ t, 0 ≤ t → val (outUp up frm to k) t = val up t - if frm ≤ t ∧ t < to then min k (val up t) else 0 := by
  have hlen := outT_len up frm to
  obtain ⟨⟨hv, hl, hval⟩, _⟩ := out_ok h hul h0 h1 h2 hk ((outT up frm to).length - 1) (by omega)
  rw [outT_last] at hval
  exact ⟨hv, by unfold outUp; omega, hval⟩

end Go.Proofs.Ytjknmnmilladlaa
