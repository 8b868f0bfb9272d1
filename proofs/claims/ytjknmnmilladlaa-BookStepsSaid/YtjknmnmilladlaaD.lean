import Derived.Test.YtjknmnmilladlaaA
import Derived.Test.YtjknmnmilladlaaC
import Derived.Deep.RegionWith

/-
  Plain: what a profile says of each time, through Add and Tidy; a profile is known by what it says. No program here.
-/
namespace Go.Proofs.Ytjknmnmilladlaa

/-- The number of the last step that begins at t or ahead of it. -/
def vf (d : Int) (l : List Step) (t : Int) : Int := l.foldl (fun d s => if s.at_ ≤ t then s.free else d) d

theorem vf_nil (d t : Int) : vf d [] t = d := rfl
theorem vf_cons (d : Int) (s : Step) (l : List Step) (t : Int) : vf d (s :: l) t = vf (if s.at_ ≤ t then s.free else d) l t := rfl
theorem vf_append (d : Int) (a b : List Step) (t : Int) : vf d (a ++ b) t = vf (vf d a t) b t := by simp [vf, List.foldl_append]
theorem vf_skip {d t : Int} {l : List Step} (h : ∀ s ∈ l, t < s.at_) : vf d l t = d := by
  induction l generalizing d with
  | nil => rfl
  | cons a l ih =>
    rw [vf_cons, if_neg (by have := h a List.mem_cons_self; omega)]
    exact ih fun s hs => h s (List.mem_cons_of_mem _ hs)
theorem vf_plus (d k t : Int) (l : List Step) : vf (d + k) (l.map (plus k)) t = vf d l t + k := by
  induction l generalizing d with
  | nil => rfl
  | cons a l ih =>
    rw [List.map_cons, vf_cons, vf_cons]
    have : (if (plus k a).at_ ≤ t then (plus k a).free else d + k) = (if a.at_ ≤ t then a.free else d) + k := by
      unfold plus
      simp only
      split <;> rfl
    rw [this, ih]

theorem vf_plc {l : List Step} {t d : Int} {p : Nat} (hp : p < l.length) (h1 : atv l p ≤ t) (h2 : ∀ z, p < z → z < l.length → t < atv l z) : vf d l t = frv l p := by
  have hs : l = l.take p ++ (⟨atv l p, frv l p⟩ :: l.drop (p + 1)) := by
    conv => lhs; rw [← List.take_append_drop p l, List.drop_eq_getElem_cons hp, stepAt l p hp]
  conv => lhs; rw [hs]
  rw [vf_append, vf_cons, if_pos h1]
  refine vf_skip fun s hs => ?_
  obtain ⟨i, hi, hi2, rfl⟩ := mem_drop_at hs
  exact h2 i (by omega) hi2
theorem Valid.vf {l : List Step} (h : Valid l) {t : Int} (ht : 0 ≤ t) (d : Int) : Ytjknmnmilladlaa.vf d l t = val l t := by
  obtain ⟨a, b, c⟩ := h.plc ht
  exact vf_plc a b c
theorem Valid.val_range {l : List Step} (h : Valid l) {t : Int} (ht : 0 ≤ t) : 0 ≤ val l t ∧ val l t ≤ 10000 := h.fr _ (h.plc ht).1
theorem Valid.val_at {l : List Step} (h : Valid l) {i : Nat} (hi : i < l.length) : val l (atv l i) = frv l i := by
  unfold val
  rw [plc_eq hi (Int.le_refl _) (fun z h1 h2 => h.rise i z h1 h2)]

/-- the middle of a profile, as it is -/
def midL (l : List Step) (p q : Nat) : List Step := (l.drop p).take (q - p)
theorem cut_mid {l : List Step} {frm : Int} {p q : Nat} (hq : q ≤ l.length) : cutI l frm p q = (midL l p q).map fun s => ⟨max s.at_ frm, s.free⟩ := by
  unfold cutI midL
  apply List.ext_getElem
  · simp; omega
  · intro i h1 h2
    simp at h1 h2
    simp [atv, frv, show p + i < l.length by omega]
theorem vf_max {d t frm : Int} (l : List Step) (h : frm ≤ t) : vf d (l.map fun s => ⟨max s.at_ frm, s.free⟩) t = vf d l t := by
  induction l generalizing d with
  | nil => rfl
  | cons a l ih =>
    rw [List.map_cons, vf_cons, vf_cons]
    have : (if max a.at_ frm ≤ t then a.free else d) = (if a.at_ ≤ t then a.free else d) := by
      by_cases h1 : a.at_ ≤ t
      · rw [if_pos h1, if_pos (by omega)]
      · rw [if_neg h1, if_neg (by omega)]
    simp only at this ⊢
    rw [this, ih]

theorem addRaw_vf {l : List Step} (h : Valid l) {frm to k : Int} (h0 : 0 ≤ frm) (h1 : frm < to) {t : Int} (ht : 0 ≤ t) (d : Int) :
    vf d (addRaw l frm to k) t = val l t + if frm ≤ t ∧ t < to then k else 0 := by
  obtain ⟨a1, a2, a3⟩ := h.plc h0
  obtain ⟨b1, b2, b3⟩ := h.plc (show 0 ≤ to by omega)
  obtain ⟨c1, c2, c3⟩ := h.plc (show 0 ≤ to - 1 by omega)
  have hdrop : ∀ s ∈ l.drop (plc l to + 1), to < s.at_ := by
    intro s hs
    obtain ⟨i, hi, hi2, rfl⟩ := mem_drop_at hs
    exact b3 i (by omega) hi2
  have hcut : ∀ s ∈ (cutL l frm to).map (plus k), frm ≤ s.at_ ∧ s.at_ < to := by
    intro s hs
    rw [List.mem_map] at hs
    obtain ⟨x, hx, hxs⟩ := hs
    have := cut_between h h0 h1 hx
    rw [← hxs]
    exact this
  unfold addRaw
  rw [vf_append, vf_append, vf_append, vf_cons, vf_nil]
  by_cases hlo : t < frm
  · rw [vf_skip (l := l.drop (plc l to + 1)) (fun s hs => by have := hdrop s hs; omega), if_neg (by simp; omega), vf_skip (l := (cutL l frm to).map (plus k)) (fun s hs => by have := hcut s hs; omega), if_neg (by omega), ← h.vf ht d]
    conv => rhs; rw [← List.take_append_drop (preN l frm) l, vf_append]
    rw [vf_skip (l := l.drop (preN l frm)), Int.add_zero]
    intro s hs
    obtain ⟨i, hi, hi2, rfl⟩ := mem_drop_at hs
    have : frm ≤ atv l i := by
      unfold preN at hi
      split at hi
      · rename_i he
        rcases Nat.eq_or_lt_of_le hi with h2 | h2
        · rw [← h2, he]; exact Int.le_refl _
        · have := a3 i h2 hi2; omega
      · have := a3 i (by omega) hi2; omega
    show t < atv l i
    omega
  by_cases hhi : to ≤ t
  · rw [if_pos (by simpa using hhi), if_neg (by omega), ← h.vf ht d, Int.add_zero]
    have hs : l = (l.take (plc l to) ++ [⟨atv l (plc l to), frv l (plc l to)⟩]) ++ l.drop (plc l to + 1) := by
      conv => lhs; rw [← List.take_append_drop (plc l to) l, List.drop_eq_getElem_cons b1, stepAt l _ b1]
      simp
    conv => rhs; rw [hs, vf_append, vf_append, vf_cons, vf_nil, if_pos (show atv l (plc l to) ≤ t by omega)]
    rfl
  · rw [vf_skip (l := l.drop (plc l to + 1)) (fun s hs => by have := hdrop s hs; omega), if_neg (by simp; omega), if_pos (by omega)]
    have hpq : plc l frm < plc l (to - 1) + 1 := by have := h.plc_mono h0 (show frm ≤ to - 1 by omega); omega
    have hmid : ∀ e, vf e ((cutL l frm to).map (plus k)) t = val l t + k := by
      intro e
      have hne : cutL l frm to = ⟨frm, frv l (plc l frm)⟩ :: cutI l frm (plc l frm + 1) (plc l (to - 1) + 1) := by
        unfold cutL cutI
        rw [show plc l (to - 1) + 1 - plc l frm = (plc l (to - 1) + 1 - (plc l frm + 1)) + 1 by omega, List.range'_succ, List.map_cons]
        congr 2
        omega
      have h2 : vf e ((cutL l frm to).map (plus k)) t = vf (frv l (plc l frm) + k) ((cutI l frm (plc l frm + 1) (plc l (to - 1) + 1)).map (plus k)) t := by
        rw [hne, List.map_cons, vf_cons, if_pos (show (plus k ⟨frm, frv l (plc l frm)⟩).at_ ≤ t by unfold plus; simp; omega)]
        rfl
      rw [h2, vf_plus, cut_mid (by omega), vf_max _ (by omega), ← h.vf ht d]
      congr 1
      have hs : l = (l.take (plc l frm) ++ [⟨atv l (plc l frm), frv l (plc l frm)⟩]) ++ (midL l (plc l frm + 1) (plc l (to - 1) + 1) ++ l.drop (plc l (to - 1) + 1)) := by
        have hd : l.drop (plc l (to - 1) + 1) = (l.drop (plc l frm + 1)).drop (plc l (to - 1) + 1 - (plc l frm + 1)) := by rw [List.drop_drop]; congr 1; omega
        unfold midL
        rw [hd, List.take_append_drop]
        conv => lhs; rw [← List.take_append_drop (plc l frm) l, List.drop_eq_getElem_cons a1, stepAt l _ a1]
        simp
      conv => rhs; rw [hs]; simp only [vf_append, vf_cons, vf_nil, if_pos (show atv l (plc l frm) ≤ t by omega)]
      rw [vf_skip (l := l.drop (plc l (to - 1) + 1))]
      intro s hs
      obtain ⟨i, hi, hi2, rfl⟩ := mem_drop_at hs
      have := c3 i (by omega) hi2
      show t < atv l i
      omega
    rw [hmid]

end Go.Proofs.Ytjknmnmilladlaa

/-
  Plain: Tidy keeps what a profile says; Add's result is a profile. No program here.
-/
namespace Go.Proofs.Ytjknmnmilladlaa

theorem lastFree_snoc (l : List Step) (s : Step) : lastFree (l ++ [s]) = s.free := by
  unfold lastFree frv
  simp
theorem vf_all {d t : Int} {l : List Step} (hn : 0 < l.length) (h : ∀ s ∈ l, s.at_ ≤ t) : vf d l t = lastFree l := by
  obtain ⟨m, s, rfl⟩ : ∃ m s, l = m ++ [s] := ⟨l.dropLast, l.getLast (List.length_pos_iff.1 hn), (List.dropLast_concat_getLast (List.length_pos_iff.1 hn)).symm⟩
  rw [vf_append, vf_cons, if_pos (h s (by simp)), vf_nil, lastFree_snoc]

theorem tidyStep_sub (out : List Step) (s : Step) : (tidyStep out s).Sublist (out ++ [s]) := by
  unfold tidyStep
  split
  · exact List.sublist_append_left _ _
  · exact List.Sublist.refl _
theorem foldl_tidy_sub (l out : List Step) : (l.foldl tidyStep out).Sublist (out ++ l) := by
  induction l generalizing out with
  | nil => simp
  | cons a l ih =>
    rw [List.foldl_cons]
    refine (ih _).trans ?_
    have := (tidyStep_sub out a).append (List.Sublist.refl l)
    simpa using this
theorem tidy_sub (l : List Step) : (tidy l).Sublist l := by simpa [tidy] using foldl_tidy_sub l []

theorem foldl_tidy_vf {l out : List Step} (d t : Int) (h : Rises (out ++ l)) : vf d (l.foldl tidyStep out) t = vf (vf d out t) l t := by
  induction l generalizing out with
  | nil => rfl
  | cons a l ih =>
    rw [List.foldl_cons]
    have hr : Rises (tidyStep out a ++ l) := by
      refine List.Pairwise.sublist ?_ h
      have := (tidyStep_sub out a).append (List.Sublist.refl l)
      simpa using this
    rw [ih hr, vf_cons]
    congr 1
    have hlt : ∀ s ∈ out, s.at_ < a.at_ := by
      intro s hs
      unfold Rises at h
      rw [List.pairwise_append] at h
      exact h.2.2 s hs a List.mem_cons_self
    unfold tidyStep
    split
    · rename_i hc
      by_cases ha : a.at_ ≤ t
      · rw [if_pos ha, vf_all hc.1 (fun s hs => by have := hlt s hs; omega), hc.2]
      · rw [if_neg ha]
    · rw [vf_append]; rfl
theorem tidy_vf {l : List Step} (d t : Int) (h : Rises l) : vf d (tidy l) t = vf d l t := foldl_tidy_vf (out := []) d t (by simpa using h)

def Alt (l : List Step) : Prop := ∀ i, i + 1 < l.length → frv l (i + 1) ≠ frv l i
theorem Alt.step {out : List Step} (h : Alt out) (s : Step) : Alt (tidyStep out s) := by
  unfold tidyStep
  split
  · exact h
  · rename_i hc
    intro i hi
    simp at hi
    by_cases hl : i + 1 < out.length
    · have h1 := h i hl
      unfold frv at h1 ⊢
      simp only [List.getD_eq_getElem?_getD] at h1 ⊢
      rw [List.getElem?_append_left hl, List.getElem?_append_left (by omega)]
      exact h1
    · have he : i + 1 = out.length := by omega
      have h1 : frv (out ++ [s]) (i + 1) = s.free := by unfold frv; simp [he]
      have h2 : frv (out ++ [s]) i = lastFree out := by
        unfold lastFree frv
        simp only [List.getD_eq_getElem?_getD]
        rw [List.getElem?_append_left (by omega), show out.length - 1 = i by omega]
      rw [h1, h2]
      intro e
      exact hc ⟨by omega, e.symm⟩
theorem foldl_alt {l out : List Step} (h : Alt out) : Alt (l.foldl tidyStep out) := by
  induction l generalizing out with
  | nil => exact h
  | cons a l ih => rw [List.foldl_cons]; exact ih (h.step a)
theorem tidy_alt (l : List Step) : Alt (tidy l) := foldl_alt (by intro i hi; simp at hi)
theorem foldl_tidy_pre (l out : List Step) : ∃ r, l.foldl tidyStep out = out ++ r := by
  induction l generalizing out with
  | nil => exact ⟨[], by simp⟩
  | cons a l ih =>
    rw [List.foldl_cons]
    obtain ⟨r, hr⟩ := ih (tidyStep out a)
    rw [hr]
    unfold tidyStep
    split
    · exact ⟨r, rfl⟩
    · exact ⟨a :: r, by simp⟩
theorem tidy_head (a : Step) (l : List Step) : ∃ r, tidy (a :: l) = a :: r := by
  obtain ⟨r, hr⟩ := foldl_tidy_pre l [a]
  refine ⟨r, ?_⟩
  unfold tidy
  rw [List.foldl_cons]
  simpa [tidyStep] using hr

theorem tidy_valid {l : List Step} (hr : Rises l) (hn : 0 < l.length) (h0 : atv l 0 = 0) (hlen : (tidy l).length ≤ 20000) (hm : ∀ s ∈ l, (0 ≤ s.at_ ∧ s.at_ ≤ 1099511627775) ∧ 0 ≤ s.free ∧ s.free ≤ 10000) : Valid (tidy l) := by
  have hrt : Rises (tidy l) := List.Pairwise.sublist (tidy_sub l) hr
  have hri := (rises_iff _).1 hrt
  have hsub := (tidy_sub l).subset
  have hmt : ∀ i, i < (tidy l).length → (0 ≤ atv (tidy l) i ∧ atv (tidy l) i ≤ 1099511627775) ∧ 0 ≤ frv (tidy l) i ∧ frv (tidy l) i ≤ 10000 := by
    intro i hi
    have := hm _ (hsub (List.getElem_mem hi))
    rw [stepAt _ i hi] at this
    exact this
  have hhead : 0 < (tidy l).length ∧ atv (tidy l) 0 = 0 := by
    cases l with
    | nil => simp at hn
    | cons a l =>
      obtain ⟨r, hr⟩ := tidy_head a l
      rw [hr]
      exact ⟨by simp, h0⟩
  exact ⟨hhead.1, hlen, hhead.2, fun i hi => (hmt i hi).1, fun i hi => (hmt i hi).2, fun i hi => ⟨hri i (i + 1) (by omega) hi, tidy_alt l i hi⟩⟩

theorem addErr_iff {l : List Step} (h : Valid l) {frm to k : Int} (hp : pOk frm to k = true) (hne : frm ≠ to) : addErr l frm to k = 0 ↔ (cutL l frm to).all (fun s => inRange (s.free + k)) = true ∧ (tidy (addRaw l frm to k)).length ≤ 20000 := by
  unfold addErr
  rw [if_neg (by rw [chk_iff.2 h]; simp), if_neg (by rw [hp]; simp), if_neg hne]
  by_cases h1 : (cutL l frm to).all (fun s => inRange (s.free + k)) = true
  · rw [if_neg (by rw [h1]; simp)]
    by_cases h2 : 20000 < (tidy (addRaw l frm to k)).length
    · rw [if_pos h2]
      simp
      omega
    · rw [if_neg h2]
      simp only [true_iff]
      exact ⟨h1, by omega⟩
  · rw [if_pos (by simpa using h1)]
    simp [h1]
theorem pOk_iff {frm to k : Int} : pOk frm to k = true ↔ (0 ≤ frm ∧ frm ≤ 1099511627775) ∧ (0 ≤ to ∧ to ≤ 1099511627775) ∧ frm ≤ to ∧ -10000 ≤ k ∧ k ≤ 10000 := by
  unfold pOk
  simp only [Bool.and_eq_true, isT_iff, decide_eq_true_eq, and_assoc]
theorem addErr_pOk {l : List Step} (h : Valid l) {frm to k : Int} (he : addErr l frm to k = 0) : pOk frm to k = true := by
  unfold addErr at he
  rw [if_neg (by rw [chk_iff.2 h]; simp)] at he
  by_cases hp : pOk frm to k = false
  · rw [if_pos hp] at he; cases he
  · simpa using hp

theorem addRaw_zero {l : List Step} (h : Valid l) {frm to k : Int} (h0 : 0 ≤ frm) (h1 : frm < to) : atv (addRaw l frm to k) 0 = 0 := by
  unfold addRaw
  have hpos := h.pos
  by_cases hp : preN l frm = 0
  · have hpl : plc l frm = 0 ∧ frm = 0 := by
      unfold preN at hp
      split at hp
      · rename_i he
        rw [hp] at he
        exact ⟨hp, by rw [← he, h.zero]⟩
      · omega
    have hne : cutL l frm to = ⟨frm, frv l (plc l frm)⟩ :: cutI l frm (plc l frm + 1) (plc l (to - 1) + 1) := by
      have a2 := (h.plc h0).2.1
      have := h.plc_mono h0 (show frm ≤ to - 1 by omega)
      unfold cutL cutI
      rw [show plc l (to - 1) + 1 - plc l frm = (plc l (to - 1) + 1 - (plc l frm + 1)) + 1 by omega, List.range'_succ, List.map_cons]
      congr 2
      omega
    rw [hp, hne]
    simp [atv, plus, hpl.2]
  · have hz := h.zero
    unfold atv at hz ⊢
    rw [List.getD_eq_getElem?_getD] at hz ⊢
    rw [List.append_assoc, List.append_assoc, List.getElem?_append_left (by simp; omega), List.getElem?_take, if_pos (by omega)]
    exact hz

/-- WHAT ADD MAKES. -/
theorem add_ok {l : List Step} (h : Valid l) {frm to k : Int} (he : addErr l frm to k = 0) :
    Valid (addRes l frm to k) ∧ ∀ t, 0 ≤ t → val (addRes l frm to k) t = val l t + if frm ≤ t ∧ t < to then k else 0 := by
  have hp := addErr_pOk h he
  have hpp := pOk_iff.1 hp
  unfold addRes
  rw [if_pos he]
  by_cases hne : frm = to
  · rw [if_pos hne]
    refine ⟨h, fun t _ => ?_⟩
    rw [if_neg (by omega)]
    omega
  · rw [if_neg hne]
    obtain ⟨h1, h2⟩ := (addErr_iff h hp hne).1 he
    have hlt : frm < to := by omega
    have hr := addRaw_rises (k := k) h hpp.1.1 hlt
    have hV : Valid (tidy (addRaw l frm to k)) := by
      refine tidy_valid hr (addRaw_len h hpp.1.1 hlt).1 (addRaw_zero h hpp.1.1 hlt) h2 ?_
      intro s hs
      have hl : ∀ i, i < l.length → ((0 ≤ atv l i ∧ atv l i ≤ 1099511627775) ∧ 0 ≤ frv l i ∧ frv l i ≤ 10000) := fun i hi => ⟨h.time i hi, h.fr i hi⟩
      unfold addRaw at hs
      rw [List.mem_append, List.mem_append, List.mem_append] at hs
      rcases hs with ((hs | hs) | hs) | hs
      · obtain ⟨i, hi, hi2, rfl⟩ := mem_take_at hs
        exact hl i hi2
      · rw [List.mem_map] at hs
        obtain ⟨x, hx, rfl⟩ := hs
        have h3 := cut_between h hpp.1.1 hlt hx
        rw [List.all_eq_true] at h1
        have h4 := h1 x hx
        unfold inRange at h4
        unfold plus
        simp only [decide_eq_true_eq] at h4 ⊢
        exact ⟨by omega, h4⟩
      · simp at hs
        subst hs
        exact ⟨hpp.2.1, h.val_range hpp.2.1.1⟩
      · obtain ⟨i, hi, hi2, rfl⟩ := mem_drop_at hs
        exact hl i hi2
    refine ⟨hV, fun t ht => ?_⟩
    rw [← hV.vf ht 0, tidy_vf 0 t hr, addRaw_vf h hpp.1.1 hlt ht]

/-- When there is room. -/
theorem add_room {l : List Step} (h : Valid l) {frm to k : Int} (h0 : 0 ≤ frm) (h1 : frm < to) (h2 : to ≤ 1099511627775) (hk : -10000 ≤ k ∧ k ≤ 10000) (hlen : l.length ≤ 19998) :
    (addErr l frm to k = 0 ↔ ∀ t, frm ≤ t → t < to → 0 ≤ val l t + k ∧ val l t + k ≤ 10000) := by
  have hp : pOk frm to k = true := pOk_iff.2 ⟨⟨h0, by omega⟩, ⟨by omega, h2⟩, by omega, hk.1, hk.2⟩
  have hl := (addRaw_len (k := k) h h0 h1).2
  have ht := length_tidyN (addRaw l frm to k) (addRaw l frm to k).length
  rw [tidyN_all] at ht
  rw [addErr_iff h hp (by omega), List.all_eq_true]
  constructor
  · rintro ⟨ha, _⟩ t ht1 ht2
    -- the step that holds at t lies in the cut
    have hpm := h.plc_mono h0 ht1
    have hpm2 := h.plc_mono (show 0 ≤ t by omega) (show t ≤ to - 1 by omega)
    have hx : (⟨max (atv l (plc l t)) frm, frv l (plc l t)⟩ : Step) ∈ cutL l frm to := by
      unfold cutL cutI
      rw [List.mem_map]
      exact ⟨plc l t, by rw [List.mem_range'_1]; omega, rfl⟩
    have := ha _ hx
    unfold inRange at this
    unfold val
    simpa using this
  · intro ha
    refine ⟨fun x hx => ?_, by omega⟩
    obtain ⟨i, hi1, hi2, rfl⟩ := mem_cutI hx
    have hb := cut_between h h0 h1 hx
    have hil : i < l.length := by have := (h.plc (show 0 ≤ to - 1 by omega)).1; omega
    have hval : val l (max (atv l i) frm) = frv l i := by
      unfold val
      rw [plc_eq hil (by omega) (fun z h3 h4 => ?_)]
      have h5 := h.rise i z h3 h4
      have h6 := (h.plc h0).2.2 z (by omega) h4
      omega
    have := ha _ hb.1 hb.2
    simp only at this
    rw [hval] at this
    unfold inRange
    simpa using this

end Go.Proofs.Ytjknmnmilladlaa

/-
  Plain: a profile has a step only where something changes; a profile is known by what it says. No program here.
-/
namespace Go.Proofs.Ytjknmnmilladlaa

theorem nodup_len {l m : List Int} (h : l.Nodup) (hs : ∀ x ∈ l, x ∈ m) : l.length ≤ m.length := by
  induction l generalizing m with
  | nil => simp
  | cons a l ih =>
    rw [List.nodup_cons] at h
    have ha := hs a List.mem_cons_self
    have := ih (m := m.erase a) h.2 (fun x hx => (List.mem_erase_of_ne (by rintro rfl; exact h.1 hx)).2 (hs x (List.mem_cons_of_mem _ hx)))
    rw [List.length_erase_of_mem ha] at this
    have hp := List.length_pos_of_mem ha
    simp
    omega

theorem vf_const {l : List Step} {t : Int} (d : Int) (h : t ∉ stepT l) : vf d l t = vf d l (t - 1) := by
  induction l generalizing d with
  | nil => rfl
  | cons a l ih =>
    unfold stepT at h
    rw [List.map_cons, List.mem_cons] at h
    have h1 : t ≠ a.at_ := fun e => h (.inl e)
    rw [vf_cons, vf_cons]
    have : (if a.at_ ≤ t then a.free else d) = (if a.at_ ≤ t - 1 then a.free else d) := by
      by_cases h2 : a.at_ ≤ t
      · rw [if_pos h2, if_pos (by omega)]
      · rw [if_neg h2, if_neg (by omega)]
    rw [this]
    exact ih _ fun hm => h (.inr hm)
theorem load_const {L : List Slot} {t : Int} (h : t ∉ slotT L) : loadOf L t = loadOf L (t - 1) := by
  induction L with
  | nil => rfl
  | cons a L ih =>
    unfold slotT at h
    simp only [List.flatMap_cons, List.mem_append, List.mem_cons] at h
    have h1 : t ≠ a.frm ∧ t ≠ a.to := ⟨fun e => h (.inl (.inl e)), fun e => h (.inl (.inr (.inl e)))⟩
    rw [loadOf_cons, loadOf_cons, ih (fun hm => h (.inr hm))]
    have : covS t a = covS (t - 1) a := by
      unfold covS
      by_cases h2 : a.frm ≤ t ∧ t < a.to
      · rw [if_pos h2, if_pos (by omega)]
      · rw [if_neg h2, if_neg (by omega)]
    rw [this]

theorem Valid.stepT_nodup {l : List Step} (h : Valid l) : (stepT l).Nodup := by
  have hr := h.rises
  unfold stepT List.Nodup
  rw [List.pairwise_map]
  exact hr.imp fun h => by omega

theorem len_bound {l up : List Step} {L : List Slot} (hl : Valid l) (hu : Valid up) (he : ∀ t, 0 ≤ t → val l t = val up t - loadOf L t) : l.length ≤ up.length + 2 * L.length := by
  have h1 : l.length = (stepT l).length := by simp [stepT]
  have h2 : up.length + 2 * L.length = (stepT up ++ slotT L).length := by rw [List.length_append, length_slotT]; simp [stepT]; omega
  rw [h1, h2]
  refine nodup_len hl.stepT_nodup ?_
  intro t ht
  unfold stepT at ht
  rw [List.mem_map] at ht
  obtain ⟨s, hs, rfl⟩ := ht
  obtain ⟨i, hi, rfl⟩ := List.getElem_of_mem hs
  rw [stepAt l i hi]
  show atv l i ∈ stepT up ++ slotT L
  rw [List.mem_append]
  cases i with
  | zero =>
    left
    rw [hl.zero, ← hu.zero]
    unfold stepT
    rw [List.mem_map]
    exact ⟨up[0]'hu.pos, List.getElem_mem hu.pos, by rw [stepAt up 0 hu.pos]⟩
  | succ i =>
    by_cases hm : atv l (i + 1) ∈ stepT up
    · exact .inl hm
    by_cases hm2 : atv l (i + 1) ∈ slotT L
    · exact .inr hm2
    exfalso
    have hn := hl.next i hi
    have h0 := (hl.time i (by omega)).1
    have e1 := hl.val_at hi
    have e2 : val l (atv l (i + 1) - 1) = frv l i := by
      unfold val
      rw [plc_eq (p := i) (by omega) (by omega) (fun z h3 h4 => ?_)]
      by_cases h5 : i + 1 < z
      · have := hl.rise (i + 1) z h5 h4; omega
      · obtain rfl : z = i + 1 := by omega
        omega
    have e3 := he (atv l (i + 1)) (by omega)
    have e4 := he (atv l (i + 1) - 1) (by omega)
    have e5 : val up (atv l (i + 1)) = val up (atv l (i + 1) - 1) := by
      rw [← hu.vf (by omega) 0, ← hu.vf (by omega) 0]
      exact vf_const 0 hm
    have e6 := load_const hm2
    exact hn.2 (by omega)

/-- A profile behind its first step: steps that rise, each saying something new. -/
def Canon : Int → Int → List Step → Prop
  | _, _, [] => True
  | d, b, s :: l => b ≤ s.at_ ∧ s.free ≠ d ∧ Canon s.free (s.at_ + 1) l
theorem Canon.mono {l : List Step} : ∀ {d b b' : Int}, Canon d b l → b' ≤ b → Canon d b' l := by
  intro d b b' h hb
  cases l with
  | nil => trivial
  | cons s l => exact ⟨by have := h.1; omega, h.2⟩
theorem Canon.ge {l : List Step} : ∀ {d b : Int}, Canon d b l → ∀ s ∈ l, b ≤ s.at_ := by
  induction l with
  | nil => intro d b _ s hs; simp at hs
  | cons a l ih =>
    intro d b h s hs
    rcases List.mem_cons.1 hs with rfl | hs
    · exact h.1
    · have := ih h.2.2 s hs
      have := h.1
      omega
theorem canon_eq {l : List Step} : ∀ {m : List Step} {d b : Int}, Canon d b l → Canon d b m → (∀ t, b ≤ t → vf d l t = vf d m t) → l = m := by
  induction l with
  | nil =>
    intro m d b _ hm he
    cases m with
    | nil => rfl
    | cons s m =>
      exfalso
      have := he s.at_ hm.1
      rw [vf_nil, vf_cons, if_pos (Int.le_refl _), vf_skip (fun x hx => by have := hm.2.2.ge x hx; omega)] at this
      exact hm.2.1 this.symm
  | cons a l ih =>
    intro m d b hl hm he
    cases m with
    | nil =>
      exfalso
      have := he a.at_ hl.1
      rw [vf_nil, vf_cons, if_pos (Int.le_refl _), vf_skip (fun x hx => by have := hl.2.2.ge x hx; omega)] at this
      exact hl.2.1 this
    | cons s m =>
      have hat : a.at_ = s.at_ := by
        rcases Int.lt_trichotomy a.at_ s.at_ with h | h | h
        · exfalso
          have := he a.at_ hl.1
          rw [vf_cons, if_pos (Int.le_refl _), vf_skip (fun x hx => by have := hl.2.2.ge x hx; omega), vf_cons, if_neg (by omega), vf_skip (fun x hx => by have := hm.2.2.ge x hx; omega)] at this
          exact hl.2.1 this
        · exact h
        · exfalso
          have := he s.at_ hm.1
          rw [vf_cons, if_neg (by omega), vf_skip (fun x hx => by have := hl.2.2.ge x hx; omega), vf_cons, if_pos (Int.le_refl _), vf_skip (fun x hx => by have := hm.2.2.ge x hx; omega)] at this
          exact hm.2.1 this.symm
      have hfr : a.free = s.free := by
        have := he a.at_ hl.1
        rw [vf_cons, if_pos (Int.le_refl _), vf_skip (fun x hx => by have := hl.2.2.ge x hx; omega), vf_cons, if_pos (by omega), vf_skip (fun x hx => by have := hm.2.2.ge x hx; omega)] at this
        exact this
      have has : a = s := by cases a; cases s; simp_all
      subst has
      congr 1
      refine ih hl.2.2 hm.2.2 fun t ht => ?_
      have := he t (by have := hl.1; omega)
      rw [vf_cons, vf_cons, if_pos (by omega)] at this
      exact this
theorem canon_of {l : List Step} : ∀ {d b : Int}, Rises l → (∀ i, i + 1 < l.length → frv l (i + 1) ≠ frv l i) → (∀ s ∈ l.head?, b ≤ s.at_ ∧ s.free ≠ d) → Canon d b l := by
  induction l with
  | nil => intro d b _ _ _; trivial
  | cons a l ih =>
    intro d b hr ha hh
    have h0 := hh a (by simp)
    refine ⟨h0.1, h0.2, ih ?_ ?_ ?_⟩
    · exact (List.pairwise_cons.1 hr).2
    · intro i hi
      have := ha (i + 1) (by simp; omega)
      simpa [frv] using this
    · intro s hs
      cases l with
      | nil => simp at hs
      | cons c l =>
        simp at hs
        subst hs
        have h1 := (List.pairwise_cons.1 hr).1 c (by simp)
        have h2 := ha 0 (by simp)
        exact ⟨by omega, by simpa [frv] using h2⟩
/-- A PROFILE IS KNOWN BY WHAT IT SAYS. -/
theorem valid_eq {l m : List Step} (hl : Valid l) (hm : Valid m) (he : ∀ t, 0 ≤ t → val l t = val m t) : l = m := by
  have hf : ∀ {x : List Step}, Valid x → ∃ f r, x = ⟨0, f⟩ :: r ∧ Canon f 1 r := by
    intro x hx
    cases x with
    | nil => exact absurd hx.pos (by simp)
    | cons a r =>
      have h0 : a.at_ = 0 := hx.zero
      refine ⟨a.free, r, by cases a; simp_all, ?_⟩
      have hc := canon_of (d := a.free + 1) (b := 0) hx.rises (fun i hi => (hx.next i hi).2) (by intro s hs; simp at hs; subst hs; exact ⟨by omega, by omega⟩)
      have := hc.2.2
      rw [h0] at this
      exact this
  obtain ⟨f, r, rfl, hr⟩ := hf hl
  obtain ⟨g, q, rfl, hq⟩ := hf hm
  have h0 := he 0 (Int.le_refl _)
  rw [← hl.vf (Int.le_refl _) 0, ← hm.vf (Int.le_refl _) 0, vf_cons, vf_cons] at h0
  simp only [Int.le_refl, if_true] at h0
  rw [vf_skip (fun x hx => by have := hr.ge x hx; omega), vf_skip (fun x hx => by have := hq.ge x hx; omega)] at h0
  subst h0
  congr 1
  refine canon_eq hr hq fun t ht => ?_
  have := he t (by omega)
  rw [← hl.vf (by omega) 0, ← hm.vf (by omega) 0, vf_cons, vf_cons] at this
  simp only [show (0 : Int) ≤ t by omega, if_true] at this
  exact this

end Go.Proofs.Ytjknmnmilladlaa

/-
  Plain: what holds of a book at all times, and that each step keeps it. No program here.
-/
namespace Go.Proofs.Ytjknmnmilladlaa

structure Inv (n : Int) (up fr : List Step) (L : List Slot) : Prop where
  n1 : 1 ≤ n ∧ n ≤ 10000
  vu : Valid up
  ul : up.length ≤ 1000
  vf : Valid fr
  rt : ∀ s ∈ L, rightOf n s = true
  ids : L.Pairwise fun a b => a.id ≠ b.id
  len : L.length ≤ 9000
  eq : ∀ t, 0 ≤ t → val fr t = val up t - loadOf L t

theorem right_iff {n : Int} {s : Slot} : rightOf n s = true ↔ 1 ≤ s.id ∧ (0 ≤ s.frm ∧ s.frm ≤ 1099511627775) ∧ (0 ≤ s.to ∧ s.to ≤ 1099511627775) ∧ s.frm < s.to ∧ 1 ≤ s.nodes ∧ s.nodes ≤ n := by
  unfold rightOf
  simp only [Bool.and_eq_true, isT_iff, decide_eq_true_eq, and_assoc]
theorem Inv.nodes {n : Int} {up fr : List Step} {L : List Slot} (h : Inv n up fr L) : ∀ s ∈ L, 1 ≤ s.nodes ∧ s.nodes ≤ 10000 := by
  intro s hs
  have := right_iff.1 (h.rt s hs)
  have := h.n1
  omega
theorem Inv.flen {n : Int} {up fr : List Step} {L : List Slot} (h : Inv n up fr L) : fr.length ≤ 19000 := by
  have := len_bound h.vf h.vu h.eq
  have := h.ul
  have := h.len
  omega

theorem load_without {L : List Slot} (h : L.Pairwise fun a b => a.id ≠ b.id) {s : Slot} (hs : s ∈ L) (t : Int) : loadOf L t = covS t s + loadOf (without L s.id) t := by
  induction L with
  | nil => simp at hs
  | cons a L ih =>
    obtain ⟨h1, h2⟩ := List.pairwise_cons.1 h
    unfold without
    rcases List.mem_cons.1 hs with rfl | hs'
    · rw [List.filter_cons_of_neg (by simp), loadOf_cons]
      congr 2
      symm
      rw [List.filter_eq_self]
      intro x hx
      have := h1 x hx
      simp
      omega
    · have hne : a.id ≠ s.id := h1 s hs'
      rw [List.filter_cons_of_pos (by simpa using hne), loadOf_cons, loadOf_cons]
      have := ih h2 hs'
      unfold without at this
      omega
theorem without_sub (L : List Slot) (id : Int) : (without L id).Sublist L := List.filter_sublist
theorem without_lt {L : List Slot} {s : Slot} (hs : s ∈ L) : (without L s.id).length < L.length := by
  unfold without
  have := List.length_filter_lt_length_iff_exists (l := L) (p := fun x => decide (x.id ≠ s.id))
  rw [this]
  exact ⟨s, hs, by simp⟩
theorem load_nonneg {L : List Slot} (h : ∀ s ∈ L, 1 ≤ s.nodes ∧ s.nodes ≤ 10000) (t : Int) : 0 ≤ loadOf L t := (loadOf_bound h t).1

/-- drop. -/
theorem Inv.drop {n : Int} {up fr : List Step} {L : List Slot} (h : Inv n up fr L) {s : Slot} (hs : s ∈ L) :
    addErr fr s.frm s.to s.nodes = 0 ∧ Inv n up (addRes fr s.frm s.to s.nodes) (without L s.id) ∧ ∀ t, 0 ≤ t → val (addRes fr s.frm s.to s.nodes) t = val fr t + if s.frm ≤ t ∧ t < s.to then s.nodes else 0 := by
  have hr := right_iff.1 (h.rt s hs)
  have hn := h.n1
  have hsub : ∀ x ∈ without L s.id, x ∈ L := fun x hx => (without_sub L s.id).subset hx
  have hwn : ∀ x ∈ without L s.id, 1 ≤ x.nodes ∧ x.nodes ≤ 10000 := fun x hx => h.nodes x (hsub x hx)
  have he : addErr fr s.frm s.to s.nodes = 0 := by
    rw [add_room h.vf hr.2.1.1 hr.2.2.2.1 hr.2.2.1.2 ⟨by omega, by omega⟩ (by have := h.flen; omega)]
    intro t h1 h2
    have h3 := h.eq t (by omega)
    have h4 := load_without h.ids hs t
    have h5 : covS t s = s.nodes := by unfold covS; rw [if_pos ⟨h1, h2⟩]
    have h6 := load_nonneg hwn t
    have h7 := h.vu.val_range (t := t) (by omega)
    have h8 := h.vf.val_range (t := t) (by omega)
    omega
  obtain ⟨hv, hval⟩ := add_ok h.vf he
  refine ⟨he, ⟨h.n1, h.vu, h.ul, hv, fun x hx => h.rt x (hsub x hx), h.ids.sublist (without_sub L s.id), Nat.le_trans (without_sub L s.id).length_le h.len, fun t ht => ?_⟩, hval⟩
  have h1 := hval t ht
  have h2 := h.eq t ht
  have h3 := load_without h.ids hs t
  have h4 : covS t s = if s.frm ≤ t ∧ t < s.to then s.nodes else 0 := rfl
  omega
/-- lay, where there is room. -/
theorem Inv.lay {n : Int} {up fr : List Step} {L : List Slot} (h : Inv n up fr L) {s : Slot} (hr : rightOf n s = true) (hs : ∀ x ∈ L, x.id ≠ s.id) (hl : L.length < 9000) (he : addErr fr s.frm s.to (-s.nodes) = 0) :
    Inv n up (addRes fr s.frm s.to (-s.nodes)) (L ++ [s]) ∧ ∀ t, 0 ≤ t → val (addRes fr s.frm s.to (-s.nodes)) t = val fr t - if s.frm ≤ t ∧ t < s.to then s.nodes else 0 := by
  obtain ⟨hv, hval⟩ := add_ok h.vf he
  have hval' : ∀ t, 0 ≤ t → val (addRes fr s.frm s.to (-s.nodes)) t = val fr t - if s.frm ≤ t ∧ t < s.to then s.nodes else 0 := by
    intro t ht
    have := hval t ht
    by_cases hc : s.frm ≤ t ∧ t < s.to
    · rw [if_pos hc] at this ⊢; omega
    · rw [if_neg hc] at this ⊢; omega
  refine ⟨⟨h.n1, h.vu, h.ul, hv, ?_, ?_, by simp; omega, fun t ht => ?_⟩, hval'⟩
  · intro x hx
    rw [List.mem_append] at hx
    rcases hx with hx | hx
    · exact h.rt x hx
    · simp at hx; subst hx; exact hr
  · rw [List.pairwise_append]
    exact ⟨h.ids, by simp, fun a ha b hb => by simp at hb; subst hb; exact hs a ha⟩
  · have h1 := hval' t ht
    have h2 := h.eq t ht
    have h3 := loadOf_snoc L s t
    have h4 : covS t s = if s.frm ≤ t ∧ t < s.to then s.nodes else 0 := rfl
    omega
/-- Is there room? -/
theorem Inv.room {n : Int} {up fr : List Step} {L : List Slot} (h : Inv n up fr L) {s : Slot} (hr : rightOf n s = true) :
    (addErr fr s.frm s.to (-s.nodes) = 0 ↔ ∀ t, s.frm ≤ t → t < s.to → s.nodes ≤ val fr t) ∧ (addErr fr s.frm s.to (-s.nodes) ≠ 0 → addErr fr s.frm s.to (-s.nodes) = 70) := by
  have hr := right_iff.1 hr
  have hn := h.n1
  have hfl := h.flen
  constructor
  · rw [add_room h.vf hr.2.1.1 hr.2.2.2.1 hr.2.2.1.2 ⟨by omega, by omega⟩ (by omega)]
    constructor
    · intro ha t h1 h2
      have := ha t h1 h2
      omega
    · intro ha t h1 h2
      have := ha t h1 h2
      have := h.vf.val_range (t := t) (by omega)
      omega
  · intro hne
    have hp : pOk s.frm s.to (-s.nodes) = true := pOk_iff.2 ⟨hr.2.1, hr.2.2.1, by omega, by omega, by omega⟩
    have hl := (addRaw_len (k := -s.nodes) h.vf hr.2.1.1 hr.2.2.2.1).2
    have ht := length_tidyN (addRaw fr s.frm s.to (-s.nodes)) (addRaw fr s.frm s.to (-s.nodes)).length
    rw [tidyN_all] at ht
    unfold addErr at hne ⊢
    rw [if_neg (by rw [chk_iff.2 h.vf]; simp), if_neg (by rw [hp]; simp), if_neg (by omega)] at hne ⊢
    split
    · rfl
    · rename_i hc
      rw [if_neg hc, if_neg (by omega)] at hne
      exact absurd rfl hne
/-- A slot that was there fits again, or a shorter one. -/
theorem Inv.again {n : Int} {up fr : List Step} {L : List Slot} (h : Inv n up fr L) {s : Slot} (hs : s ∈ L) (to : Int) (h1 : s.frm < to) (h2 : to ≤ s.to) : addErr (addRes fr s.frm s.to s.nodes) s.frm to (-s.nodes) = 0 := by
  obtain ⟨_, hI, hv⟩ := h.drop hs
  have hr := right_iff.1 (h.rt s hs)
  have hr2 : rightOf n ⟨s.id, s.frm, to, s.nodes⟩ = true := right_iff.2 ⟨hr.1, hr.2.1, ⟨by simp only; omega, by simp only; omega⟩, h1, hr.2.2.2.2⟩
  refine (hI.room hr2).1.2 fun t h3 h4 => ?_
  simp only at h3 h4 ⊢
  have h5 := hv t (by omega)
  rw [if_pos (by omega)] at h5
  have := h.vf.val_range (t := t) (by omega)
  omega
theorem Inv.new {n : Int} (h : 1 ≤ n) (h2 : n ≤ 10000) : Inv n [⟨0, n⟩] [⟨0, n⟩] [] := by
  have hv : Valid [⟨0, n⟩] := ⟨by simp, by simp, rfl, fun i hi => by simp at hi; subst hi; simp [atv], fun i hi => by simp at hi; subst hi; simp [frv]; omega, fun i hi => by simp at hi⟩
  exact ⟨⟨h, h2⟩, hv, by simp, hv, by simp, by simp, by simp, fun t ht => by simp [loadOf]⟩

end Go.Proofs.Ytjknmnmilladlaa

/-
  Plain: what Out leaves of what is not out. No program here.
-/
namespace Go.Proofs.Ytjknmnmilladlaa

/-- The times between which Out takes nodes out. -/
def midT (up : List Step) (frm to : Int) : List Int := (stepT up).filter fun a => decide (frm < a) && decide (a < to)
def outT (up : List Step) (frm to : Int) : List Int := frm :: (midT up frm to ++ [to])
/-- how many, at a time -/
def outK (up : List Step) (k t : Int) : Int := min k (atOf up t)
def outN (up : List Step) (ts : List Int) (k : Int) : Nat → List Step
  | 0 => up
  | j + 1 => addRes (outN up ts k j) (inv ts j) (inv ts (j + 1)) (-(outK up k (inv ts j)))

theorem outT_rises {up : List Step} (h : Valid up) {frm to : Int} (h1 : frm < to) : (outT up frm to).Pairwise (· < ·) := by
  have hs : (stepT up).Pairwise (· < ·) := by
    have := h.rises
    unfold stepT
    rw [List.pairwise_map]
    exact this
  have hm : ∀ a ∈ midT up frm to, frm < a ∧ a < to := by
    intro a ha
    unfold midT at ha
    rw [List.mem_filter] at ha
    simpa using ha.2
  unfold outT
  rw [List.pairwise_cons, List.pairwise_append]
  refine ⟨?_, hs.filter _, by simp, ?_⟩
  · intro a ha
    rw [List.mem_append] at ha
    rcases ha with ha | ha
    · exact (hm a ha).1
    · simp at ha; subst ha; exact h1
  · intro a ha b hb
    simp at hb
    subst hb
    exact (hm a ha).2
theorem inv_lt {l : List Int} (h : l.Pairwise (· < ·)) : ∀ {i j : Nat}, i < j → j < l.length → inv l i < inv l j := by
  intro i j hij hj
  rw [List.pairwise_iff_getElem] at h
  have := h i j (by omega) hj hij
  simpa [inv, hj, show i < l.length by omega] using this
theorem inv_mem {l : List Int} {i : Nat} (h : i < l.length) : inv l i ∈ l := by
  unfold inv
  simp [h]
theorem mem_inv {l : List Int} {x : Int} (h : x ∈ l) : ∃ i, i < l.length ∧ inv l i = x := by
  obtain ⟨i, hi, rfl⟩ := List.getElem_of_mem h
  exact ⟨i, hi, by simp [inv, hi]⟩
theorem outT_len (up : List Step) (frm to : Int) : 2 ≤ (outT up frm to).length ∧ (outT up frm to).length ≤ up.length + 2 := by
  have := List.length_filter_le (fun a => decide (frm < a) && decide (a < to)) (stepT up)
  have h2 : (stepT up).length = up.length := by simp [stepT]
  unfold outT midT
  rw [List.length_cons, List.length_append, List.length_singleton]
  omega
theorem outT_first (up : List Step) (frm to : Int) : inv (outT up frm to) 0 = frm := rfl
theorem outT_last (up : List Step) (frm to : Int) : inv (outT up frm to) ((outT up frm to).length - 1) = to := by
  have hl : (outT up frm to).length - 1 = (midT up frm to).length + 1 := by unfold outT; simp
  rw [hl]
  unfold outT inv
  rw [List.getD_cons_succ, List.getD_eq_getElem?_getD, List.getElem?_append_right (Nat.le_refl _)]
  simp

/-- Between two of these times nothing changes. -/
theorem vf_between {l : List Step} {a t d : Int} (h : a ≤ t) (hn : ∀ x, a < x → x ≤ t → x ∉ stepT l) : vf d l t = vf d l a := by
  induction l generalizing d with
  | nil => rfl
  | cons s l ih =>
    rw [vf_cons, vf_cons]
    have : (if s.at_ ≤ t then s.free else d) = (if s.at_ ≤ a then s.free else d) := by
      by_cases h2 : s.at_ ≤ a
      · rw [if_pos h2, if_pos (by omega)]
      · by_cases h3 : s.at_ ≤ t
        · exact absurd (by simp [stepT]) (hn s.at_ (by omega) h3)
        · rw [if_neg h2, if_neg h3]
    rw [this]
    exact ih fun x h1 h2 hm => hn x h1 h2 (by unfold stepT at hm ⊢; rw [List.map_cons]; exact List.mem_cons_of_mem _ hm)

theorem atOf_val {up : List Step} (h : Valid up) {t : Int} (h0 : 0 ≤ t) (h1 : t ≤ 1099511627775) : atOf up t = val up t := by
  unfold atOf
  rw [if_pos ⟨chk_iff.2 h, isT_iff.2 ⟨h0, h1⟩⟩]
theorem atOf_range {up : List Step} (h : Valid up) (t : Int) : 0 ≤ atOf up t ∧ atOf up t ≤ 10000 := by
  unfold atOf
  split
  · rename_i hc
    exact h.val_range (isT_iff.1 hc.2).1
  · omega

theorem out_ok {up : List Step} (h : Valid up) (hul : up.length ≤ 1000) {frm to k : Int} (h0 : 0 ≤ frm) (h1 : frm < to) (h2 : to ≤ 1099511627775) (hk : 1 ≤ k ∧ k ≤ 10000) :
    ∀ j, j < (outT up frm to).length → (Valid (outN up (outT up frm to) k j) ∧ (outN up (outT up frm to) k j).length ≤ up.length + 2 * j ∧
      ∀ t, 0 ≤ t → val (outN up (outT up frm to) k j) t = val up t - if frm ≤ t ∧ t < inv (outT up frm to) j then min k (val up t) else 0) ∧
      (j + 1 < (outT up frm to).length → addErr (outN up (outT up frm to) k j) (inv (outT up frm to) j) (inv (outT up frm to) (j + 1)) (-(outK up k (inv (outT up frm to) j))) = 0) := by
  have hr := outT_rises h h1
  have hlen := outT_len up frm to
  have hfst := outT_first up frm to
  have hlst := outT_last up frm to
  have hbet : ∀ x, x ∈ stepT up → frm < x → x < to → x ∈ outT up frm to := by
    intro x hx h3 h4
    unfold outT midT
    rw [List.mem_cons, List.mem_append, List.mem_filter]
    exact .inr (.inl ⟨hx, by simp; exact ⟨h3, h4⟩⟩)
  generalize outT up frm to = ts at *
  have hge : ∀ i, i < ts.length → frm ≤ inv ts i := by
    intro i hi
    rcases Nat.eq_zero_or_pos i with rfl | hp
    · rw [hfst]; exact Int.le_refl _
    · have := inv_lt hr hp hi; omega
  have hle : ∀ i, i < ts.length → inv ts i ≤ to := by
    intro i hi
    by_cases hi2 : i = ts.length - 1
    · rw [hi2, hlst]; exact Int.le_refl _
    · have := inv_lt hr (i := i) (j := ts.length - 1) (by omega) (by omega); omega
  have hmid : ∀ j, j + 1 < ts.length → ∀ t, inv ts j ≤ t → t < inv ts (j + 1) → val up t = val up (inv ts j) := by
    intro j hj t ht1 ht2
    have hg := hge j (by omega)
    rw [← h.vf (by omega) 0, ← h.vf (by omega) 0]
    refine vf_between ht1 fun x hx1 hx2 hm => ?_
    have hl := hle (j + 1) hj
    obtain ⟨i, hi, rfl⟩ := mem_inv (hbet x hm (by omega) (by omega))
    rcases Nat.lt_or_ge j i with h3 | h3
    · rcases Nat.lt_or_ge (j + 1) i with h4 | h4
      · have := inv_lt hr h4 hi; omega
      · obtain rfl : i = j + 1 := by omega
        omega
    · rcases Nat.eq_or_lt_of_le h3 with rfl | h4
      · omega
      · have := inv_lt hr h4 (by omega); omega
  have hone : ∀ j, j + 1 < ts.length → (Valid (outN up ts k j) ∧ (outN up ts k j).length ≤ up.length + 2 * j ∧ ∀ t, 0 ≤ t → val (outN up ts k j) t = val up t - if frm ≤ t ∧ t < inv ts j then min k (val up t) else 0) →
      addErr (outN up ts k j) (inv ts j) (inv ts (j + 1)) (-(outK up k (inv ts j))) = 0 := by
    rintro j hj ⟨hv, hl, hval⟩
    have hg := hge j (by omega)
    have hl1 := hle (j + 1) hj
    have hlt : inv ts j < inv ts (j + 1) := inv_lt hr (Nat.lt_succ_self j) hj
    have hko : outK up k (inv ts j) = min k (val up (inv ts j)) := by unfold outK; rw [atOf_val h (by omega) (by omega)]
    have hvr := h.val_range (t := inv ts j) (by omega)
    rw [add_room hv (by omega) hlt (by omega) ⟨by omega, by omega⟩ (by omega)]
    intro t ht1 ht2
    have h3 := hval t (by omega)
    rw [if_neg (by omega)] at h3
    have h4 := hmid j hj t ht1 ht2
    omega
  intro j
  induction j with
  | zero =>
    intro hj
    have h3 : Valid (outN up ts k 0) ∧ (outN up ts k 0).length ≤ up.length + 2 * 0 ∧ ∀ t, 0 ≤ t → val (outN up ts k 0) t = val up t - if frm ≤ t ∧ t < inv ts 0 then min k (val up t) else 0 := by
      refine ⟨h, by simp [outN], fun t _ => ?_⟩
      rw [if_neg (by rw [hfst]; omega)]
      show val up t = _
      omega
    exact ⟨h3, fun hj1 => hone 0 hj1 h3⟩
  | succ j ih =>
    intro hj
    obtain ⟨h3, h4⟩ := ih (by omega)
    have he := h4 hj
    obtain ⟨hv, hl, hval⟩ := h3
    obtain ⟨hv2, hval2⟩ := add_ok hv he
    have hg := hge j (by omega)
    have hlt : inv ts j < inv ts (j + 1) := inv_lt hr (Nat.lt_succ_self j) hj
    have h5 : Valid (outN up ts k (j + 1)) ∧ (outN up ts k (j + 1)).length ≤ up.length + 2 * (j + 1) ∧ ∀ t, 0 ≤ t → val (outN up ts k (j + 1)) t = val up t - if frm ≤ t ∧ t < inv ts (j + 1) then min k (val up t) else 0 := by
      refine ⟨hv2, ?_, fun t ht => ?_⟩
      · show (addRes (outN up ts k j) (inv ts j) (inv ts (j + 1)) (-(outK up k (inv ts j)))).length ≤ _
        unfold addRes
        rw [if_pos he, if_neg (by omega)]
        have h6 := (addRaw_len (k := -(outK up k (inv ts j))) hv (by omega) hlt).2
        have h7 := length_tidyN (addRaw (outN up ts k j) (inv ts j) (inv ts (j + 1)) (-(outK up k (inv ts j)))) (addRaw (outN up ts k j) (inv ts j) (inv ts (j + 1)) (-(outK up k (inv ts j)))).length
        rw [tidyN_all] at h7
        omega
      · have h6 : val (outN up ts k (j + 1)) t = _ := hval2 t ht
        have h7 := hval t ht
        rw [h6, h7]
        by_cases hc : inv ts j ≤ t ∧ t < inv ts (j + 1)
        · rw [if_neg (by omega), if_pos hc, if_pos (by omega)]
          have h8 := hmid j hj t hc.1 hc.2
          have h9 : outK up k (inv ts j) = min k (val up (inv ts j)) := by
            unfold outK
            have := hle (j + 1) hj
            rw [atOf_val h (by omega) (by omega)]
          rw [h9, h8]
          omega
        · rw [if_neg hc]
          by_cases hd : frm ≤ t ∧ t < inv ts j
          · rw [if_pos hd, if_pos (by omega)]; omega
          · rw [if_neg hd, if_neg (by omega)]; omega
    exact ⟨h5, fun hj2 => hone (j + 1) hj2 h5⟩

/-- what is not out, behind Out -/
def outUp (up : List Step) (frm to k : Int) : List Step := outN up (outT up frm to) k ((outT up frm to).length - 1)
theorem outUp_ok {up : List Step} (h : Valid up) (hul : up.length ≤ 1000) {frm to k : Int} (h0 : 0 ≤ frm) (h1 : frm < to) (h2 : to ≤ 1099511627775) (hk : 1 ≤ k ∧ k ≤ 10000) :
    Valid (outUp up frm to k) ∧ (outUp up frm to k).length ≤ 4000 ∧ ∀ t, 0 ≤ t → val (outUp up frm to k) t = val up t - if frm ≤ t ∧ t < to then min k (val up t) else 0 := by
  have hlen := outT_len up frm to
  obtain ⟨⟨hv, hl, hval⟩, _⟩ := out_ok h hul h0 h1 h2 hk ((outT up frm to).length - 1) (by omega)
  rw [outT_last] at hval
  exact ⟨hv, by unfold outUp; omega, hval⟩

end Go.Proofs.Ytjknmnmilladlaa

/-
  Walk: the book's sum.
-/
namespace Go.Proofs.Ytjknmnmilladlaa
open Go.RowKit

/-- What is free, reckoned anew, one slot behind the other. -/
def sumF (up : List Step) (L : List Slot) : List Step := L.foldl (fun f s => addRes f s.frm s.to (-s.nodes)) up

theorem RangeIs.noCell {w : World} {bm R o : Nat} {L left : List Slot} (h : RangeIs w bm R L left) : w.cell? ⟨R, o, none⟩ = none := by
  obtain ⟨es, clock, since, seen, c0, hb, hE, hr, _⟩ := h
  simp [World.cell?, hr]
theorem RangeIs.neR {w : World} {bm R b o : Nat} {L left : List Slot} (h : RangeIs w bm R L left) {u : Value} (hc : w.cell? ⟨b, o, none⟩ = some u) : b ≠ R := by
  intro e
  subst e
  rw [h.noCell] at hc
  cases hc
theorem IsSteps.grownBut {w w' : World} {R : Nat} {v : Value} {l : List Step} (h : IsSteps w v l) (hg : w.grownBy w' (some R)) (hR : ∀ b o u, w.cell? ⟨b, o, none⟩ = some u → b ≠ R) : IsSteps w' v l := by
  obtain ⟨hl, ao, cap, rfl, h1, h2, h3⟩ := h
  refine ⟨hl, ao, cap, rfl, h1, h2, fun hn => ?_⟩
  obtain ⟨b, off, rfl, hr⟩ := h3 hn
  refine ⟨b, off, rfl, fun j u hj => ?_⟩
  have hc := hr j u hj
  exact (World.cell?_of_block (w := w) (hg.block b (World.block_lt_of_cell? w _ hc) (fun e => hR b _ u hc (by cases e; rfl)))).trans hc
theorem BookIs.iter {w w' : World} {bk bm R : Nat} {n : Int} {up fr : List Step} {L M left : List Slot} (h : BookIs w bk bm n up fr L) (hR : RangeIs w bm R M left) (hg : w.grownBy w' (some R)) : BookIs w' bk bm n up fr L := by
  have hne : bk ≠ R := hR.neR h.c0
  have hnm : bm ≠ R := by
    intro e
    obtain ⟨es, clock, since, seen, c0, hb, hE, hr, _⟩ := hR
    rw [e, hr] at hb
    cases hb
  have hc : ∀ o, w'.cell? ⟨bk, o, none⟩ = w.cell? ⟨bk, o, none⟩ := fun o => World.cell?_of_block (w := w) (hg.block bk h.lt (fun e => hne (by cases e; rfl)))
  have hf : ∀ o, w'.frozen? ⟨bk, o, none⟩ = w.frozen? ⟨bk, o, none⟩ := fun o => World.frozen?_of_block (w := w) (hg.block bk h.lt (fun e => hne (by cases e; rfl)))
  have hcell : ∀ b o u, w.cell? ⟨b, o, none⟩ = some u → b ≠ R := fun b o u hc => hR.neR hc
  obtain ⟨vu, u1, u2, u3⟩ := h.c1
  obtain ⟨vf, f1, f2, f3⟩ := h.c2
  exact ⟨(hc 0).trans h.c0, ⟨vu, (hc 1).trans u1, u2.grownBut hg hcell, u3⟩, ⟨vf, (hc 2).trans f1, f2.grownBut hg hcell, f3⟩, (hc 3).trans h.c3, fun o => (hf o).trans (h.fz o), h.map.of_block (hg.block bm h.map.lt (fun e => hnm (by cases e; rfl)))⟩
theorem Kept.grownR {bk bm R : Nat} {a w w' : World} (h : Kept bk bm a w) (hg : w.grownBy w' (some R)) (hR : a.heap.size ≤ R) : Kept bk bm a w' :=
  ⟨hg.os.trans h.os, hg.tape.trans h.tape, hg.output.trans h.output, Nat.le_trans h.size hg.size, fun k hk h1 h2 => (hg.block k (Nat.lt_of_lt_of_le hk h.size) (fun e => by cases e; omega)).trans (h.block k hk h1 h2)⟩
/-- A store into the book's block leaves the loop where it is. -/
theorem RangeIs.setCell {w : World} {bm R : Nat} {L left : List Slot} (h : RangeIs w bm R L left) (a : Addr) (u : Value) : RangeIs (w.setCell a u) bm R L left := by
  obtain ⟨es, clock, since, seen, c0, h1, h2, h3, h4⟩ := h
  refine ⟨es, clock, since, seen, c0, ?_, h2, ?_, h4⟩
  · simp only [World.setCell, Array.getElem?_modify]
    split
    · rw [h1]; rfl
    · exact h1
  · simp only [World.setCell, Array.getElem?_modify]
    split
    · rw [h3]; rfl
    · exact h3

/-- 'b.free = v', v's row new: what was away is away. -/
theorem AwayB.set2 {w w1 : World} {bk X : Nat} (hA : AwayB w bk X) (hB : Below w.heap.size w w1) (hlt : bk < w.heap.size) {u v : Value} (c2 : w1.cell? ⟨bk, 2, none⟩ = some u) (hv : Apart X v) : AwayB (w1.setCell ⟨bk, 2, none⟩ v) bk X := by
  intro x hx
  rcases hx with hx | hx
  · rw [cell_set_other (.inr (by decide)), hB.cell (p := ⟨bk, 1, none⟩) hlt] at hx
    exact hA x (.inl hx)
  · rw [cell_set_same c2] at hx
    cases hx
    exact hv
theorem AwayB.grownR {w w' : World} {bk X R : Nat} (hA : AwayB w bk X) (hlt : bk < w.heap.size) (hne : bk ≠ R) (hg : w.grownBy w' (some R)) : AwayB w' bk X := by
  have hc : ∀ o, w'.cell? ⟨bk, o, none⟩ = w.cell? ⟨bk, o, none⟩ := fun o => World.cell?_of_block (w := w) (hg.block bk hlt (fun e => hne (by cases e; rfl)))
  intro x hx
  rw [hc, hc] at hx
  exact hA x hx

set_option maxHeartbeats 8000000 in
set_option maxRecDepth 100000 in
theorem sumAny {w : World} {bk bm : Nat} {n : Int} {up fr : List Step} {L : List Slot} (h : BookIs w bk bm n up fr L) (hup : up.length ≤ 40000) (hk : ∀ s ∈ L, 1 ≤ s.nodes ∧ s.nodes ≤ 10000) :
    Calls Try.prog 47 #[.pointer (some ⟨bk, 0, none⟩)] w fun e w' => e = .returned (.tuple #[]) ∧ (∃ dn, dn.Perm L ∧ BookIs w' bk bm n up (sumF up dn) L) ∧ Kept bk bm w w' ∧ ∀ X, X < w.heap.size → AwayB w bk X → AwayB w' bk X := by
  obtain ⟨vu, c1, u2, u3⟩ := h.c1
  obtain ⟨vf, c2, f2, f3⟩ := h.c2
  have hlt := h.lt
  have HC := Lib.hid (cloneAny u2 hup)
  have HH := Lib.hid h
  have HK := Lib.hid hk
  clear h u2 u3 f2 f3 hk
  go_enter Try.func47, Try.ntmps47
  go_wp2_with fail
  refine (HC.out).mono ?_
  rintro e w1 ⟨⟨v, rfl, hv⟩, hb1⟩
  obtain ⟨ao, cp, rfl, _, _⟩ := IsRow.shape hv.is
  have k2 := cell_thru hb1 c2
  have H1 := HH.out.below hb1
  have g2 := H1.fz 2
  have A1 : Apart bk (.slice ao up.length cp) := Apart.own hv hlt
  have HK2 := Lib.hid (H1.setFree hv.is A1)
  have k3 := HK2.out.c3
  have hsz : w1.heap.size ≤ (w1.setCell ⟨bk, 2, none⟩ (.slice ao up.length cp)).heap.size := by simp [World.setCell]
  have HKE := Lib.hid (((Kept.of_below (bk := bk) (bm := bm) hb1)).set 2 (.slice ao up.length cp))
  have hs1 : w.heap.size ≤ w1.heap.size := hb1.size
  have HAW := Lib.hid (show ∀ X, X < w.heap.size → AwayB w bk X → AwayB (w1.setCell ⟨bk, 2, none⟩ (.slice ao up.length cp)) bk X from fun X hX hA => hA.set2 hb1 hlt k2 (Apart.own hv hX))
  clear hv hb1 H1 A1 HC
  obtain ⟨R, hR⟩ : ∃ R, R = (w1.setCell ⟨bk, 2, none⟩ (.slice ao up.length cp)).heap.size := ⟨_, rfl⟩
  have hlR : w.heap.size ≤ R := by rw [hR]; omega
  have HR := Lib.hid hR
  clear hR hsz
  go_wp2_with (at_range; refine wp_range _ rfl _ rfl bm L rfl HK2.out.map ?_; intro w0 hr0 hb0 hs0)
  go_frame
  rw [← HR.out] at hr0
  rw [← HR.out]
  have HBK0 := Lib.hid (HK2.out.below hb0)
  have HKE0 := Lib.hid (HKE.out.trans (Kept.of_below hb0))
  have HAW0 := Lib.hid (show ∀ X, X < w.heap.size → AwayB w bk X → AwayB w0 bk X from fun X hX hA => (HAW.out X hX hA).below hb0 HK2.out.lt)
  have HR0 := Lib.hid hr0
  clear hr0 hb0 hs0 k2 g2 k3
  go_loopw [3] (fun _ wr => ∃ dn left, RangeIs wr bm R L left ∧ (dn ++ left).Perm L ∧ BookIs wr bk bm n up (sumF up dn) L ∧ Kept bk bm w wr ∧ ∀ X, X < w.heap.size → AwayB w bk X → AwayB wr bk X) (fun _ wr => wr.rangeLeft bm R)
  case atStart => exact ⟨[], L, HR0.out, List.Perm.refl _, HBK0.out, HKE0.out, HAW0.out⟩
  case round =>
    obtain ⟨dn, left, hRg, hP, hBk, hKp, hAw⟩ := hrel
    have HAw := Lib.hid hAw
    clear hAw HAW HAW0
    have HP := Lib.hid hP
    have HBk := Lib.hid hBk
    have HKp := Lib.hid hKp
    clear hP hBk hKp HBK0 HKE0 HR0 HK2 HKE
    go_wp2_with (at_next; refine wp_next _ rfl _ rfl bm R L left rfl hRg ?_ ?_)
    · intro hl
      subst hl
      have hPL : dn.Perm L := by simpa using HP.out
      have HPL := Lib.hid hPL
      clear hPL hRg
      go_wp2_with fail
      go_end0
      exact ⟨rfl, ⟨dn, HPL.out, HBk.out⟩, HKp.out, HAw.out⟩
    · intro s x y w2 hl hR1 hg1 hs1 hen
      subst hl
      clear hs1
      have hsL : s ∈ L := HP.out.subset (by simp)
      have hq := HK.out s hsL
      have hB2 := HBk.out.iter hRg hg1
      have hlt2 := hB2.lt
      have hne : w2.heap.size ≠ bk := by omega
      have hltm : bm < w2.heap.size := hB2.map.lt
      have hlr : R < w2.heap.size := hR1.lt
      have hsn : sumF up (dn ++ [s]) = addRes (sumF up dn) s.frm s.to (-s.nodes) := by simp [sumF, List.foldl_append]
      obtain ⟨id, f0, t0, q⟩ := s
      unfold slotV at hen
      simp only at hen hq hsn
      have hneg := neg_wrap (k := q) ⟨by omega, by omega⟩
      have HM := Lib.hid (show World.rangeLeft _ bm R = (x ++ ⟨id, f0, t0, q⟩ :: y).length from hRg.left_eq)
      have hmeas : (x ++ y).length < (x ++ (⟨id, f0, t0, q⟩ : Slot) :: y).length := by simp
      have HME := Lib.hid hmeas
      have HP1 := Lib.hid (perm_step HP.out)
      have HKp2 := Lib.hid (HKp.out.grownR hg1 hlR)
      have HAw2 := Lib.hid (show ∀ X, X < w.heap.size → AwayB w bk X → AwayB w2 bk X from fun X hX hA => (HAw.out X hX hA).grownR HBk.out.lt (hRg.neR HBk.out.c0) hg1)
      obtain ⟨vf2, c2, f2, f3⟩ := hB2.c2
      have HF := Lib.hid f2
      have HB2 := Lib.hid hB2
      have HR1 := Lib.hid hR1
      generalize hrr : addRes (sumF up dn) f0 t0 (-q) = rr at *
      have HRR := Lib.hid hrr
      have HSN := Lib.hid hsn
      have d0 : (w2.alloc (.cells #[.int .i64 id, .int .i64 f0, .int .i64 t0, .int .i64 q] 29)).drew.cell? ⟨bk, 2, none⟩ = some vf2 := cell_old _ c2
      have d1 : (w2.alloc (.cells #[.int .i64 id, .int .i64 f0, .int .i64 t0, .int .i64 q] 29)).drew.cell? ⟨w2.heap.size, 1, none⟩ = some (.int .i64 f0) := cell_new w2 _ 29 1 rfl
      have d2 : (w2.alloc (.cells #[.int .i64 id, .int .i64 f0, .int .i64 t0, .int .i64 q] 29)).drew.cell? ⟨w2.heap.size, 2, none⟩ = some (.int .i64 t0) := cell_new w2 _ 29 2 rfl
      have d3 : (w2.alloc (.cells #[.int .i64 id, .int .i64 f0, .int .i64 t0, .int .i64 q] 29)).drew.cell? ⟨w2.heap.size, 3, none⟩ = some (.int .i64 q) := cell_new w2 _ 29 3 rfl
      have HBW := Lib.hid (((Below.refl _ _).alloc (Nat.le_refl _) _).drew : Below w2.heap.size w2 (w2.alloc (.cells #[.int .i64 id, .int .i64 f0, .int .i64 t0, .int .i64 q] 29)).drew)
      clear hsL hq hB2 hRg hR1 hg1 hmeas f2 f3 hrr hsn c2
      go_wp2_with fail
      go_region_with ((go_at_call 44; refine (addEq ((HF.out).below HBW.out) rfl HRR.out).mono ?_; rintro e w3 ⟨⟨v3, rfl, hv⟩, hb1⟩; obtain ⟨ao3, cp3, rfl, _, _⟩ := IsRow.shape hv.is; have B1 : Below w2.heap.size w2 w3 := HBW.out.trans (hb1.mono HBW.out.size); have k1 := cell_thru hb1 d0; have g2 := (HB2.out.below B1).fz 2; have HV := Lib.hid hv; clear hv; have HB1 := Lib.hid B1; clear B1; clear hb1))
      all_goals (
        go_roundw
        case rel =>
          have A3 : Apart bk (.slice ao3 rr.length cp3) := Apart.own HV.out (Nat.lt_of_lt_of_le hlt2 HBW.out.size)
          (repeat apply Exists.intro)
          exact ⟨⟨dn ++ [⟨id, f0, t0, q⟩], x ++ y, (HR1.out.below HB1.out hltm hlr).setCell _ _, HP1.out, (by rw [HSN.out]; exact (HB2.out.below HB1.out).setFree HV.out.is A3), (HKp2.out.trans (Kept.of_below HB1.out)).set 2 _, fun X hX hA => (HAw2.out X hX hA).set2 HB1.out hlt2 k1 (Apart.own HV.out (Nat.lt_of_lt_of_le hX (Nat.le_trans HKp2.out.size HBW.out.size)))⟩, rfl⟩
        case measure =>
          rw [((HR1.out.below HB1.out hltm hlr).setCell _ _).left_eq, HM.out]
          exact HME.out)

end Go.Proofs.Ytjknmnmilladlaa

/-
  Plain: who goes when nodes are out, and that the book's invariant holds behind it. No program here.
-/
namespace Go.Proofs.Ytjknmnmilladlaa

def overL (up : List Step) (L : List Slot) (ts : List Int) : List Step := ts.map fun t => ⟨t, loadOf L t - atOf up t⟩
/-- hurt of over: id, whatever the order in which the times were laid together. -/
def HurtIs (up : List Step) (L : List Slot) (id : Int) : Prop := ∃ ts : List Int, (∀ t, t ∈ ts ↔ t ∈ stepT up ++ slotT L) ∧ hurtOf (overL up L ts) L = id

theorem foldl_mxS {all : List Step} {L : List Slot} (m : Int) : L.foldl (mxS all) m = m ∨ ∃ s ∈ L, s.id = L.foldl (mxS all) m := by
  induction L generalizing m with
  | nil => exact .inl rfl
  | cons a L ih =>
    rw [List.foldl_cons]
    rcases ih (mxS all m a) with h | ⟨s, hs, h⟩
    · rw [h]
      unfold mxS
      split
      · exact .inr ⟨a, List.mem_cons_self, rfl⟩
      · exact .inl rfl
    · exact .inr ⟨s, List.mem_cons_of_mem _ hs, h⟩
theorem foldl_mxS_ge {all : List Step} {L : List Slot} (m : Int) : m ≤ L.foldl (mxS all) m ∧ ∀ s ∈ L, hitS all s = true → s.id ≤ L.foldl (mxS all) m := by
  induction L generalizing m with
  | nil => exact ⟨Int.le_refl _, by simp⟩
  | cons a L ih =>
    rw [List.foldl_cons]
    obtain ⟨h1, h2⟩ := ih (mxS all m a)
    have h3 : m ≤ mxS all m a ∧ (hitS all a = true → a.id ≤ mxS all m a) := by
      unfold mxS
      split
      · rename_i h; exact ⟨by omega, fun _ => Int.le_refl _⟩
      · rename_i h; exact ⟨Int.le_refl _, fun hh => by by_cases h4 : m < a.id; exact absurd ⟨h4, hh⟩ h; omega⟩
    refine ⟨by omega, fun s hs hh => ?_⟩
    rcases List.mem_cons.1 hs with rfl | hs
    · have := h3.2 hh; omega
    · exact h2 s hs hh
theorem HurtIs.mem {up : List Step} {L : List Slot} {id : Int} (h : HurtIs up L id) (h0 : id ≠ 0) : ∃ s ∈ L, s.id = id := by
  obtain ⟨ts, _, rfl⟩ := h
  rcases foldl_mxS (all := overL up L ts) (L := L) 0 with h | h
  · exact absurd h h0
  · exact h

theorem change_at {up : List Step} (hu : Valid up) (L : List Slot) : ∀ (n : Nat) (t : Int), t = n → ∃ x, x ∈ stepT up ++ slotT L ∧ 0 ≤ x ∧ x ≤ t ∧ loadOf L x = loadOf L t ∧ val up x = val up t := by
  intro n
  induction n with
  | zero =>
    rintro t rfl
    refine ⟨0, ?_, Int.le_refl _, Int.le_refl _, rfl, rfl⟩
    rw [List.mem_append]
    left
    have := hu.zero
    rw [← this]
    unfold stepT
    rw [List.mem_map]
    exact ⟨up[0]'hu.pos, List.getElem_mem hu.pos, by rw [stepAt up 0 hu.pos]⟩
  | succ n ih =>
    intro t ht
    by_cases hm : t ∈ stepT up ++ slotT L
    · exact ⟨t, hm, by omega, Int.le_refl _, rfl, rfl⟩
    · obtain ⟨x, h1, h2, h3, h4, h5⟩ := ih (t - 1) (by omega)
      rw [List.mem_append] at hm
      refine ⟨x, h1, h2, by omega, ?_, ?_⟩
      · rw [h4, load_const (t := t) fun h => hm (.inr h)]
      · rw [h5, ← hu.vf (by omega) 0, ← hu.vf (by omega) 0, vf_const (t := t) 0 fun h => hm (.inl h)]

theorem hitS_of {up : List Step} {L : List Slot} {ts : List Int} {x : Int} {s : Slot} (hx : x ∈ ts) (h1 : 0 < loadOf L x - atOf up x) (h2 : s.frm ≤ x) (h3 : x < s.to) : hitS (overL up L ts) s = true := by
  obtain ⟨i, hi, rfl⟩ := List.getElem_of_mem hx
  unfold hitS hitN
  rw [List.any_eq_true]
  refine ⟨i, by rw [List.mem_range]; simpa [overL] using hi, ?_⟩
  have ha : atv (overL up L ts) i = ts[i] := by simp [atv, overL, hi]
  have hf : frv (overL up L ts) i = loadOf L ts[i] - atOf up ts[i] := by simp [frv, overL, hi]
  rw [ha, hf]
  unfold hitX
  simp only [Bool.and_eq_true, decide_eq_true_eq]
  exact ⟨⟨h1, h2⟩, h3⟩
theorem load_pos {L : List Slot} {t : Int} (h : 0 < loadOf L t) : ∃ s ∈ L, s.frm ≤ t ∧ t < s.to := by
  induction L with
  | nil => simp [loadOf] at h
  | cons a L ih =>
    by_cases hc : a.frm ≤ t ∧ t < a.to
    · exact ⟨a, List.mem_cons_self, hc⟩
    · rw [loadOf_cons] at h
      have h0 : covS t a = 0 := by unfold covS; rw [if_neg hc]
      obtain ⟨s, hs, h2⟩ := ih (by omega)
      exact ⟨s, List.mem_cons_of_mem _ hs, h2⟩

/-- Nobody has to go: nothing is over. -/
theorem HurtIs.fits {n : Int} {up : List Step} {L : List Slot} (hu : Valid up) (hr : ∀ s ∈ L, rightOf n s = true) (h : HurtIs up L 0) : ∀ t, 0 ≤ t → loadOf L t ≤ val up t := by
  intro t ht
  rcases Int.lt_or_le (val up t) (loadOf L t) with hlt | hle
  · exfalso
    obtain ⟨ts, hts, hz⟩ := h
    obtain ⟨x, hx, hx0, hxt, e1, e2⟩ := change_at hu L t.toNat t (by omega)
    have hmax : x ≤ 1099511627775 := by
      rw [List.mem_append] at hx
      rcases hx with hx | hx
      · unfold stepT at hx
        rw [List.mem_map] at hx
        obtain ⟨s, hs, rfl⟩ := hx
        obtain ⟨i, hi, rfl⟩ := List.getElem_of_mem hs
        rw [stepAt up i hi]
        exact (hu.time i hi).2
      · unfold slotT at hx
        rw [List.mem_flatMap] at hx
        obtain ⟨s, hs, hx⟩ := hx
        have := right_iff.1 (hr s hs)
        simp at hx
        rcases hx with rfl | rfl <;> omega
    have hat := atOf_val hu hx0 hmax
    have hv := hu.val_range hx0
    obtain ⟨s, hs, h2, h3⟩ := load_pos (L := L) (t := x) (by omega)
    have hh := hitS_of (up := up) (L := L) ((hts x).2 hx) (by omega) h2 h3
    have := (foldl_mxS_ge (all := overL up L ts) (L := L) 0).2 s hs hh
    have h4 := right_iff.1 (hr s hs)
    unfold hurtOf at hz
    omega
  · exact hle

/-- Who has gone, one behind the other. -/
inductive Gone (up : List Step) (L0 : List Slot) : List Int → List Slot → Prop
  | nil : Gone up L0 [] L0
  | snoc {G : List Int} {L : List Slot} {s : Slot} : Gone up L0 G L → s ∈ L → HurtIs up L s.id → Gone up L0 (G ++ [s.id]) (without L s.id)

theorem Gone.sub {up : List Step} {L0 L : List Slot} {G : List Int} (h : Gone up L0 G L) : L.Sublist L0 := by
  induction h with
  | nil => exact List.Sublist.refl _
  | snoc _ _ _ ih => exact (without_sub _ _).trans ih
theorem Gone.ids {up : List Step} {L0 L : List Slot} {G : List Int} (h : Gone up L0 G L) : ∀ x ∈ L0, x ∈ L ∨ x.id ∈ G := by
  induction h with
  | nil => exact fun x hx => .inl hx
  | @snoc G L s _ hs _ ih =>
    intro x hx
    rcases ih x hx with h | h
    · by_cases he : x.id = s.id
      · exact .inr (by rw [he]; simp)
      · left
        unfold without
        rw [List.mem_filter]
        exact ⟨h, by simpa using he⟩
    · exact .inr (List.mem_append_left _ h)
theorem Gone.from {up : List Step} {L0 L : List Slot} {G : List Int} (h : Gone up L0 G L) : ∀ g ∈ G, ∃ s ∈ L0, s.id = g := by
  induction h with
  | nil => simp
  | @snoc G L s hg hs _ ih =>
    intro g hgm
    rw [List.mem_append] at hgm
    rcases hgm with h | h
    · exact ih g h
    · simp at h
      exact ⟨s, hg.sub.subset hs, h.symm⟩

theorem without_len {L : List Slot} (h : L.Pairwise fun a b => a.id ≠ b.id) {s : Slot} (hs : s ∈ L) : (without L s.id).length + 1 = L.length := by
  obtain ⟨j, hj, rfl⟩ := List.getElem_of_mem hs
  have := filter_erase h (List.getElem?_eq_getElem hj)
  unfold without
  rw [← this, List.length_eraseIdx]
  simp [hj]
  omega
theorem Gone.len {up : List Step} {L0 L : List Slot} {G : List Int} (h0 : L0.Pairwise fun a b => a.id ≠ b.id) (h : Gone up L0 G L) : G.length + L.length = L0.length := by
  induction h with
  | nil => simp
  | @snoc G L s hg hs _ ih =>
    have := without_len (h0.sublist hg.sub) hs
    simp
    omega

/-- sum: each Add finds room. -/
theorem sum_ok {up : List Step} (hu : Valid up) (hul : up.length ≤ 1000) {n : Int} (hn : n ≤ 10000) {L : List Slot} (hr : ∀ s ∈ L, rightOf n s = true) (hl : L.length ≤ 9000) (hf : ∀ t, 0 ≤ t → loadOf L t ≤ val up t) :
    ∀ (dn rest : List Slot), (dn ++ rest).Perm L → Valid (sumF up dn) ∧ ∀ t, 0 ≤ t → val (sumF up dn) t = val up t - loadOf dn t := by
  intro dn
  obtain ⟨m, hm⟩ : ∃ m, m = dn.length := ⟨_, rfl⟩
  induction m generalizing dn with
  | zero =>
    intro rest _
    obtain rfl := List.eq_nil_of_length_eq_zero hm.symm
    exact ⟨hu, fun t _ => by simp [sumF, loadOf]⟩
  | succ m ih =>
    intro rest hp
    have hpos : 0 < dn.length := by omega
    obtain ⟨d, s, rfl⟩ : ∃ d s, dn = d ++ [s] := ⟨dn.dropLast, dn.getLast (List.length_pos_iff.1 hpos), (List.dropLast_concat_getLast (List.length_pos_iff.1 hpos)).symm⟩
    have hp2 : (d ++ ([s] ++ rest)).Perm L := by rw [← List.append_assoc]; exact hp
    obtain ⟨hv, hval⟩ := ih d (by simp at hm; omega) _ hp2
    have hsL : s ∈ L := hp.subset (by simp)
    have hsr := right_iff.1 (hr s hsL)
    have hnn : ∀ x ∈ L, 1 ≤ x.nodes ∧ x.nodes ≤ 10000 := fun x hx => by have := right_iff.1 (hr x hx); omega
    have hdl : d.length ≤ 9000 := by have := hp.length_eq; simp at this; omega
    have hlen := len_bound hv hu hval
    have he : addErr (sumF up d) s.frm s.to (-s.nodes) = 0 := by
      rw [add_room hv hsr.2.1.1 hsr.2.2.2.1 hsr.2.2.1.2 ⟨by omega, by omega⟩ (by omega)]
      intro t h1 h2
      have h3 := hval t (by omega)
      have h4 := hf t (by omega)
      have h5 := loadOf_perm hp2 t
      rw [loadOf_append, List.singleton_append, loadOf_cons] at h5
      have h6 : covS t s = s.nodes := by unfold covS; rw [if_pos ⟨h1, h2⟩]
      have h7 := load_nonneg (L := rest) (fun x hx => hnn x (hp.subset (List.mem_append_right _ hx))) t
      have h8 := hv.val_range (t := t) (by omega)
      omega
    have hsn : sumF up (d ++ [s]) = addRes (sumF up d) s.frm s.to (-s.nodes) := by simp [sumF, List.foldl_append]
    obtain ⟨hv2, hval2⟩ := add_ok hv he
    rw [hsn]
    refine ⟨hv2, fun t ht => ?_⟩
    rw [hval2 t ht, hval t ht, loadOf_snoc]
    unfold covS
    by_cases hc : s.frm ≤ t ∧ t < s.to
    · rw [if_pos hc, if_pos hc]; omega
    · rw [if_neg hc, if_neg hc]; omega

/-- THE BOOK BEHIND OUT. -/
theorem Inv.out {n : Int} {up fr up2 : List Step} {L L2 dn : List Slot} {G : List Int} (h : Inv n up fr L) (hu : Valid up2) (hul : up2.length ≤ 1000) (hg : Gone up2 L G L2) (hz : HurtIs up2 L2 0) (hp : dn.Perm L2) : Inv n up2 (sumF up2 dn) L2 := by
  have hr : ∀ s ∈ L2, rightOf n s = true := fun s hs => h.rt s (hg.sub.subset hs)
  have hl : L2.length ≤ 9000 := Nat.le_trans hg.sub.length_le h.len
  obtain ⟨hv, hval⟩ := sum_ok hu hul h.n1.2 hr hl (hz.fits hu hr) dn [] (by simpa using hp)
  exact ⟨h.n1, hu, hul, hv, hr, h.ids.sublist hg.sub, hl, fun t ht => by rw [hval t ht, loadOf_perm hp]⟩

end Go.Proofs.Ytjknmnmilladlaa

/-
  Walks: the book's Out: bad numbers.
-/
namespace Go.Proofs.Ytjknmnmilladlaa
open Go.RowKit

set_option maxHeartbeats 4000000 in
set_option maxRecDepth 100000 in
theorem outNil (frm to k : Int) (w : World) : Calls Try.prog 24 #[.pointer none, .int .i64 frm, .int .i64 to, .int .i64 k] w fun e w' => e = .returned (.tuple #[.slice none 0 0, .int .i64 1]) ∧ Below w.heap.size w w' := by
  go_enter Try.func24, Try.ntmps24
  go_wp2_with fail
  go_step3
  go_wp2_with fail
  rw [Exit.noGoto_ret]
  go_ret2
  exact ⟨rfl, Below.refl _ _⟩

def outArg (n frm to k : Int) : Bool := isT frm && isT to && decide (frm < to) && decide (1 ≤ k) && decide (k ≤ n)

set_option maxHeartbeats 4000000 in
set_option maxRecDepth 100000 in
theorem outBad {w : World} {bk bm : Nat} {n : Int} {up fr : List Step} {L : List Slot} (h : BookIs w bk bm n up fr L) (frm to k : Int) (hb : outArg n frm to k = false) :
    Calls Try.prog 24 #[.pointer (some ⟨bk, 0, none⟩), .int .i64 frm, .int .i64 to, .int .i64 k] w fun e w' => e = .returned (.tuple #[.slice none 0 0, .int .i64 2]) ∧ Below w.heap.size w w' := by
  have c0 := h.c0
  clear h
  have hcases : isT frm = false ∨ (isT frm = true ∧ isT to = false) ∨ (isT frm = true ∧ isT to = true ∧ to ≤ frm) ∨ (isT frm = true ∧ isT to = true ∧ frm < to ∧ k < 1) ∨ (isT frm = true ∧ isT to = true ∧ frm < to ∧ 1 ≤ k ∧ n < k) := by
    unfold outArg at hb
    cases h1 : isT frm
    · exact .inl rfl
    cases h2 : isT to
    · exact .inr (.inl ⟨rfl, rfl⟩)
    simp [h1, h2] at hb
    rcases Int.lt_or_le frm to with h3 | h3
    · rcases Int.lt_or_le k 1 with h4 | h4
      · exact .inr (.inr (.inr (.inl ⟨rfl, rfl, h3, h4⟩)))
      · exact .inr (.inr (.inr (.inr ⟨rfl, rfl, h3, h4, hb h3 h4⟩)))
    · exact .inr (.inr (.inl ⟨rfl, rfl, h3⟩))
  clear hb
  rcases hcases with h1 | ⟨h1, h2⟩ | ⟨h1, h2, h3⟩ | ⟨h1, h2, h3, h4⟩ | ⟨h1, h2, h3, h4, h5⟩
  · have K1 := Lib.hid h1
    clear h1
    go_enter Try.func24, Try.ntmps24
    go_wp2_with fail
    go_step3
    go_wp2_with fail
    refine (clockF frm _ K1.out).mono ?_
    rintro e w1 ⟨rfl, rfl⟩
    go_wp2_with fail
    rw [Exit.noGoto_ret]
    go_ret2
    exact ⟨rfl, Below.refl _ _⟩
  · have K1 := Lib.hid h1
    have K2 := Lib.hid h2
    clear h1 h2
    go_enter Try.func24, Try.ntmps24
    go_wp2_with fail
    go_step3
    go_wp2_with fail
    refine (clockT frm _ K1.out).mono ?_
    rintro e w1 ⟨rfl, rfl⟩
    go_wp2_with fail
    refine (clockF to _ K2.out).mono ?_
    rintro e w1 ⟨rfl, rfl⟩
    go_wp2_with fail
    rw [Exit.noGoto_ret]
    go_ret2
    exact ⟨rfl, Below.refl _ _⟩
  · have K1 := Lib.hid h1
    have K2 := Lib.hid h2
    have hd : decide (to ≤ frm) = true := by simpa using h3
    clear h1 h2 h3
    go_enter Try.func24, Try.ntmps24
    go_wp2_with fail
    go_step3
    go_wp2_with fail
    refine (clockT frm _ K1.out).mono ?_
    rintro e w1 ⟨rfl, rfl⟩
    go_wp2_with fail
    refine (clockT to _ K2.out).mono ?_
    rintro e w1 ⟨rfl, rfl⟩
    go_wp2_with fail
    rw [Exit.noGoto_ret]
    go_ret2
    exact ⟨rfl, Below.refl _ _⟩
  · have K1 := Lib.hid h1
    have K2 := Lib.hid h2
    have hd : decide (to ≤ frm) = false := by simpa using h3
    have hd2 : decide (k < 1) = true := by simpa using h4
    clear h1 h2 h3 h4
    go_enter Try.func24, Try.ntmps24
    go_wp2_with fail
    go_step3
    go_wp2_with fail
    refine (clockT frm _ K1.out).mono ?_
    rintro e w1 ⟨rfl, rfl⟩
    go_wp2_with fail
    refine (clockT to _ K2.out).mono ?_
    rintro e w1 ⟨rfl, rfl⟩
    go_wp2_with fail
    rw [Exit.noGoto_ret]
    go_ret2
    exact ⟨rfl, Below.refl _ _⟩
  · have K1 := Lib.hid h1
    have K2 := Lib.hid h2
    have hd : decide (to ≤ frm) = false := by simpa using h3
    have hd2 : decide (k < 1) = false := by simpa using h4
    have hd3 : decide (n < k) = true := by simpa using h5
    clear h1 h2 h3 h4 h5
    go_enter Try.func24, Try.ntmps24
    go_wp2_with fail
    go_step3
    go_wp2_with fail
    refine (clockT frm _ K1.out).mono ?_
    rintro e w1 ⟨rfl, rfl⟩
    go_wp2_with fail
    refine (clockT to _ K2.out).mono ?_
    rintro e w1 ⟨rfl, rfl⟩
    go_wp2_with fail
    rw [Exit.noGoto_ret]
    go_ret2
    exact ⟨rfl, Below.refl _ _⟩

end Go.Proofs.Ytjknmnmilladlaa
