/-
  Plain: what a profile says of each time, through Add and Tidy; a profile is known by what it says. No program here.
-/
import Derived.Test.YtjknmnmilladlaaP4
namespace Go.Proofs.Ytjknmnmilladlaa

/-- The number of the last step that begins at t or ahead of it. -/
def vf (d : Int) (l : List Step) (t : Int) : Int := l.foldl (fun d s => if s.at_ ≤ t then s.free else d) d

theorem vf_nil (d t : Int) : vf d [] t = d := rfl
theorem vf_cons (d : Int) (s : Step) (l : List Step) (t : Int) : vf d (s :: l) t = vf (if s.at_ ≤ t then s.free else d) l t := rfl
theorem vf_append (d : Int) (a b : List Step) (t : Int) : vf d (a ++ b) t = vf (vf d a t) b t := by simp [vf, List.foldl_append]
theorem vf_skip {d t : Int} {l : List Step} (h : ∀ s ∈ l, t < s.at_) : vf d l t = d := by
  induction l generalizing d with
  | nil => rfl
  | cons a l ih =>
    rw [vf_cons, if_neg (by have := h a List.mem_cons_self; omega)]
    exact ih fun s hs => h s (List.mem_cons_of_mem _ hs)
theorem vf_plus (d k t : Int) (l : List Step) : vf (d + k) (l.map (plus k)) t = vf d l t + k := by
  induction l generalizing d with
  | nil => rfl
  | cons a l ih =>
    rw [List.map_cons, vf_cons, vf_cons]
    have : (if (plus k a).at_ ≤ t then (plus k a).free else d + k) = (if a.at_ ≤ t then a.free else d) + k := by
      unfold plus
      simp only
      split <;> rfl
    rw [this, ih]

theorem vf_plc {l : List Step} {t d : Int} {p : Nat} (hp : p < l.length) (h1 : atv l p ≤ t) (h2 : ∀ z, p < z → z < l.length → t < atv l z) : vf d l t = frv l p := by
  have hs : l = l.take p ++ (⟨atv l p, frv l p⟩ :: l.drop (p + 1)) := by
    conv => lhs; rw [← List.take_append_drop p l, List.drop_eq_getElem_cons hp, stepAt l p hp]
  conv => lhs; rw [hs]
  rw [vf_append, vf_cons, if_pos h1]
  refine vf_skip fun s hs => ?_
  obtain ⟨i, hi, hi2, rfl⟩ := mem_drop_at hs
  exact h2 i (by omega) hi2
theorem Valid.vf {l : List Step} (h : Valid l) {t : Int} (ht : 0 ≤ t) (d : Int) : Ytjknmnmilladlaa.vf d l t = val l t := by
  obtain ⟨a, b, c⟩ := h.plc ht
  exact vf_plc a b c
theorem Valid.val_range {l : List Step} (h : Valid l) {t : Int} (ht : 0 ≤ t) : 0 ≤ val l t ∧ val l t ≤ 10000 := h.fr _ (h.plc ht).1
theorem Valid.val_at {l : List Step} (h : Valid l) {i : Nat} (hi : i < l.length) : val l (atv l i) = frv l i := by
  unfold val
  rw [plc_eq hi (Int.le_refl _) (fun z h1 h2 => h.rise i z h1 h2)]

/-- the middle of a profile, as it is -/
def midL (l : List Step) (p q : Nat) : List Step := (l.drop p).take (q - p)
theorem cut_mid {l : List Step} {frm : Int} {p q : Nat} (hq : q ≤ l.length) : cutI l frm p q = (midL l p q).map fun s => ⟨max s.at_ frm, s.free⟩ := by
  unfold cutI midL
  apply List.ext_getElem
  · simp; omega
  · intro i h1 h2
    simp at h1 h2
    simp [atv, frv, show p + i < l.length by omega]
theorem vf_max {d t frm : Int} (l : List Step) (h : frm ≤ t) : vf d (l.map fun s => ⟨max s.at_ frm, s.free⟩) t = vf d l t := by
  induction l generalizing d with
  | nil => rfl
  | cons a l ih =>
    rw [List.map_cons, vf_cons, vf_cons]
    have : (if max a.at_ frm ≤ t then a.free else d) = (if a.at_ ≤ t then a.free else d) := by
      by_cases h1 : a.at_ ≤ t
      · rw [if_pos h1, if_pos (by omega)]
      · rw [if_neg h1, if_neg (by omega)]
    simp only at this ⊢
    rw [this, ih]

theorem addRaw_vf {l : List Step} (h : Valid l) {frm to k : Int} (h0 : 0 ≤ frm) (h1 : frm < to) {t : Int} (ht : 0 ≤ t) (d : Int) :
    vf d (addRaw l frm to k) t = val l t + if frm ≤ t ∧ t < to then k else 0 := by
  obtain ⟨a1, a2, a3⟩ := h.plc h0
  obtain ⟨b1, b2, b3⟩ := h.plc (show 0 ≤ to by omega)
  obtain ⟨c1, c2, c3⟩ := h.plc (show 0 ≤ to - 1 by omega)
  have hdrop : ∀ s ∈ l.drop (plc l to + 1), to < s.at_ := by
    intro s hs
    obtain ⟨i, hi, hi2, rfl⟩ := mem_drop_at hs
    exact b3 i (by omega) hi2
  have hcut : ∀ s ∈ (cutL l frm to).map (plus k), frm ≤ s.at_ ∧ s.at_ < to := by
    intro s hs
    rw [List.mem_map] at hs
    obtain ⟨x, hx, hxs⟩ := hs
    have := cut_between h h0 h1 hx
    rw [← hxs]
    exact this
  unfold addRaw
  rw [vf_append, vf_append, vf_append, vf_cons, vf_nil]
  by_cases hlo : t < frm
  · rw [vf_skip (l := l.drop (plc l to + 1)) (fun s hs => by have := hdrop s hs; omega), if_neg (by simp; omega), vf_skip (l := (cutL l frm to).map (plus k)) (fun s hs => by have := hcut s hs; omega), if_neg (by omega), ← h.vf ht d]
    conv => rhs; rw [← List.take_append_drop (preN l frm) l, vf_append]
    rw [vf_skip (l := l.drop (preN l frm)), Int.add_zero]
    intro s hs
    obtain ⟨i, hi, hi2, rfl⟩ := mem_drop_at hs
    have : frm ≤ atv l i := by
      unfold preN at hi
      split at hi
      · rename_i he
        rcases Nat.eq_or_lt_of_le hi with h2 | h2
        · rw [← h2, he]; exact Int.le_refl _
        · have := a3 i h2 hi2; omega
      · have := a3 i (by omega) hi2; omega
    show t < atv l i
    omega
  by_cases hhi : to ≤ t
  · rw [if_pos (by simpa using hhi), if_neg (by omega), ← h.vf ht d, Int.add_zero]
    have hs : l = (l.take (plc l to) ++ [⟨atv l (plc l to), frv l (plc l to)⟩]) ++ l.drop (plc l to + 1) := by
      conv => lhs; rw [← List.take_append_drop (plc l to) l, List.drop_eq_getElem_cons b1, stepAt l _ b1]
      simp
    conv => rhs; rw [hs, vf_append, vf_append, vf_cons, vf_nil, if_pos (show atv l (plc l to) ≤ t by omega)]
    rfl
  · rw [vf_skip (l := l.drop (plc l to + 1)) (fun s hs => by have := hdrop s hs; omega), if_neg (by simp; omega), if_pos (by omega)]
    have hpq : plc l frm < plc l (to - 1) + 1 := by have := h.plc_mono h0 (show frm ≤ to - 1 by omega); omega
    have hmid : ∀ e, vf e ((cutL l frm to).map (plus k)) t = val l t + k := by
      intro e
      have hne : cutL l frm to = ⟨frm, frv l (plc l frm)⟩ :: cutI l frm (plc l frm + 1) (plc l (to - 1) + 1) := by
        unfold cutL cutI
        rw [show plc l (to - 1) + 1 - plc l frm = (plc l (to - 1) + 1 - (plc l frm + 1)) + 1 by omega, List.range'_succ, List.map_cons]
        congr 2
        omega
      have h2 : vf e ((cutL l frm to).map (plus k)) t = vf (frv l (plc l frm) + k) ((cutI l frm (plc l frm + 1) (plc l (to - 1) + 1)).map (plus k)) t := by
        rw [hne, List.map_cons, vf_cons, if_pos (show (plus k ⟨frm, frv l (plc l frm)⟩).at_ ≤ t by unfold plus; simp; omega)]
        rfl
      rw [h2, vf_plus, cut_mid (by omega), vf_max _ (by omega), ← h.vf ht d]
      congr 1
      have hs : l = (l.take (plc l frm) ++ [⟨atv l (plc l frm), frv l (plc l frm)⟩]) ++ (midL l (plc l frm + 1) (plc l (to - 1) + 1) ++ l.drop (plc l (to - 1) + 1)) := by
        have hd : l.drop (plc l (to - 1) + 1) = (l.drop (plc l frm + 1)).drop (plc l (to - 1) + 1 - (plc l frm + 1)) := by rw [List.drop_drop]; congr 1; omega
        unfold midL
        rw [hd, List.take_append_drop]
        conv => lhs; rw [← List.take_append_drop (plc l frm) l, List.drop_eq_getElem_cons a1, stepAt l _ a1]
        simp
      conv => rhs; rw [hs]; simp only [vf_append, vf_cons, vf_nil, if_pos (show atv l (plc l frm) ≤ t by omega)]
      rw [vf_skip (l := l.drop (plc l (to - 1) + 1))]
      intro s hs
      obtain ⟨i, hi, hi2, rfl⟩ := mem_drop_at hs
      have := c3 i (by omega) hi2
      show t < atv l i
      omega
    rw [hmid]

end Go.Proofs.Ytjknmnmilladlaa
