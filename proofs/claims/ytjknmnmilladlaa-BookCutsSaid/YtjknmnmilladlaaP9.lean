/-
  Plain: a profile has a step only where something changes; a profile is known by what it says. No program here.
-/
import Derived.Test.YtjknmnmilladlaaP8
import Derived.Test.YtjknmnmilladlaaP7
namespace Go.Proofs.Ytjknmnmilladlaa

theorem nodup_len {l m : List Int} (h : l.Nodup) (hs : ∀ x ∈ l, x ∈ m) : l.length ≤ m.length := by
  induction l generalizing m with
  | nil => simp
  | cons a l ih =>
    rw [List.nodup_cons] at h
    have ha := hs a List.mem_cons_self
    have := ih (m := m.erase a) h.2 (fun x hx => (List.mem_erase_of_ne (by rintro rfl; exact h.1 hx)).2 (hs x (List.mem_cons_of_mem _ hx)))
    rw [List.length_erase_of_mem ha] at this
    have hp := List.length_pos_of_mem ha
    simp
    omega

theorem vf_const {l : List Step} {t : Int} (d : Int) (h : t ∉ stepT l) : vf d l t = vf d l (t - 1) := by
  induction l generalizing d with
  | nil => rfl
  | cons a l ih =>
    unfold stepT at h
    rw [List.map_cons, List.mem_cons] at h
    have h1 : t ≠ a.at_ := fun e => h (.inl e)
    rw [vf_cons, vf_cons]
    have : (if a.at_ ≤ t then a.free else d) = (if a.at_ ≤ t - 1 then a.free else d) := by
      by_cases h2 : a.at_ ≤ t
      · rw [if_pos h2, if_pos (by omega)]
      · rw [if_neg h2, if_neg (by omega)]
    rw [this]
    exact ih _ fun hm => h (.inr hm)
theorem load_const {L : List Slot} {t : Int} (h : t ∉ slotT L) : loadOf L t = loadOf L (t - 1) := by
  induction L with
  | nil => rfl
  | cons a L ih =>
    unfold slotT at h
    simp only [List.flatMap_cons, List.mem_append, List.mem_cons] at h
    have h1 : t ≠ a.frm ∧ t ≠ a.to := ⟨fun e => h (.inl (.inl e)), fun e => h (.inl (.inr (.inl e)))⟩
    rw [loadOf_cons, loadOf_cons, ih (fun hm => h (.inr hm))]
    have : covS t a = covS (t - 1) a := by
      unfold covS
      by_cases h2 : a.frm ≤ t ∧ t < a.to
      · rw [if_pos h2, if_pos (by omega)]
      · rw [if_neg h2, if_neg (by omega)]
    rw [this]

theorem Valid.stepT_nodup {l : List Step} (h : Valid l) : (stepT l).Nodup := by
  have hr := h.rises
  unfold stepT List.Nodup
  rw [List.pairwise_map]
  exact hr.imp fun h => by omega

theorem len_bound {l up : List Step} {L : List Slot} (hl : Valid l) (hu : Valid up) (he : ∀ t, 0 ≤ t → val l t = val up t - loadOf L t) : l.length ≤ up.length + 2 * L.length := by
  have h1 : l.length = (stepT l).length := by simp [stepT]
  have h2 : up.length + 2 * L.length = (stepT up ++ slotT L).length := by rw [List.length_append, length_slotT]; simp [stepT]; omega
  rw [h1, h2]
  refine nodup_len hl.stepT_nodup ?_
  intro t ht
  unfold stepT at ht
  rw [List.mem_map] at ht
  obtain ⟨s, hs, rfl⟩ := ht
  obtain ⟨i, hi, rfl⟩ := List.getElem_of_mem hs
  rw [stepAt l i hi]
  show atv l i ∈ stepT up ++ slotT L
  rw [List.mem_append]
  cases i with
  | zero =>
    left
    rw [hl.zero, ← hu.zero]
    unfold stepT
    rw [List.mem_map]
    exact ⟨up[0]'hu.pos, List.getElem_mem hu.pos, by rw [stepAt up 0 hu.pos]⟩
  | succ i =>
    by_cases hm : atv l (i + 1) ∈ stepT up
    · exact .inl hm
    by_cases hm2 : atv l (i + 1) ∈ slotT L
    · exact .inr hm2
    exfalso
    have hn := hl.next i hi
    have h0 := (hl.time i (by omega)).1
    have e1 := hl.val_at hi
    have e2 : val l (atv l (i + 1) - 1) = frv l i := by
      unfold val
      rw [plc_eq (p := i) (by omega) (by omega) (fun z h3 h4 => ?_)]
      by_cases h5 : i + 1 < z
      · have := hl.rise (i + 1) z h5 h4; omega
      · obtain rfl : z = i + 1 := by omega
        omega
    have e3 := he (atv l (i + 1)) (by omega)
    have e4 := he (atv l (i + 1) - 1) (by omega)
    have e5 : val up (atv l (i + 1)) = val up (atv l (i + 1) - 1) := by
      rw [← hu.vf (by omega) 0, ← hu.vf (by omega) 0]
      exact vf_const 0 hm
    have e6 := load_const hm2
    exact hn.2 (by omega)

/-- A profile behind its first step: steps that rise, each saying something new. -/
def Canon : Int → Int → List Step → Prop
  | _, _, [] => True
  | d, b, s :: l => b ≤ s.at_ ∧ s.free ≠ d ∧ Canon s.free (s.at_ + 1) l
theorem Canon.mono {l : List Step} : ∀ {d b b' : Int}, Canon d b l → b' ≤ b → Canon d b' l := by
  intro d b b' h hb
  cases l with
  | nil => trivial
  | cons s l => exact ⟨by have := h.1; omega, h.2⟩
theorem Canon.ge {l : List Step} : ∀ {d b : Int}, Canon d b l → ∀ s ∈ l, b ≤ s.at_ := by
  induction l with
  | nil => intro d b _ s hs; simp at hs
  | cons a l ih =>
    intro d b h s hs
    rcases List.mem_cons.1 hs with rfl | hs
    · exact h.1
    · have := ih h.2.2 s hs
      have := h.1
      omega
theorem canon_eq {l : List Step} : ∀ {m : List Step} {d b : Int}, Canon d b l → Canon d b m → (∀ t, b ≤ t → vf d l t = vf d m t) → l = m := by
  induction l with
  | nil =>
    intro m d b _ hm he
    cases m with
    | nil => rfl
    | cons s m =>
      exfalso
      have := he s.at_ hm.1
      rw [vf_nil, vf_cons, if_pos (Int.le_refl _), vf_skip (fun x hx => by have := hm.2.2.ge x hx; omega)] at this
      exact hm.2.1 this.symm
  | cons a l ih =>
    intro m d b hl hm he
    cases m with
    | nil =>
      exfalso
      have := he a.at_ hl.1
      rw [vf_nil, vf_cons, if_pos (Int.le_refl _), vf_skip (fun x hx => by have := hl.2.2.ge x hx; omega)] at this
      exact hl.2.1 this
    | cons s m =>
      have hat : a.at_ = s.at_ := by
        rcases Int.lt_trichotomy a.at_ s.at_ with h | h | h
        · exfalso
          have := he a.at_ hl.1
          rw [vf_cons, if_pos (Int.le_refl _), vf_skip (fun x hx => by have := hl.2.2.ge x hx; omega), vf_cons, if_neg (by omega), vf_skip (fun x hx => by have := hm.2.2.ge x hx; omega)] at this
          exact hl.2.1 this
        · exact h
        · exfalso
          have := he s.at_ hm.1
          rw [vf_cons, if_neg (by omega), vf_skip (fun x hx => by have := hl.2.2.ge x hx; omega), vf_cons, if_pos (Int.le_refl _), vf_skip (fun x hx => by have := hm.2.2.ge x hx; omega)] at this
          exact hm.2.1 this.symm
      have hfr : a.free = s.free := by
        have := he a.at_ hl.1
        rw [vf_cons, if_pos (Int.le_refl _), vf_skip (fun x hx => by have := hl.2.2.ge x hx; omega), vf_cons, if_pos (by omega), vf_skip (fun x hx => by have := hm.2.2.ge x hx; omega)] at this
        exact this
      have has : a = s := by cases a; cases s; simp_all
      subst has
      congr 1
      refine ih hl.2.2 hm.2.2 fun t ht => ?_
      have := he t (by have := hl.1; omega)
      rw [vf_cons, vf_cons, if_pos (by omega)] at this
      exact this
theorem canon_of {l : List Step} : ∀ {d b : Int}, Rises l → (∀ i, i + 1 < l.length → frv l (i + 1) ≠ frv l i) → (∀ s ∈ l.head?, b ≤ s.at_ ∧ s.free ≠ d) → Canon d b l := by
  induction l with
  | nil => intro d b _ _ _; trivial
  | cons a l ih =>
    intro d b hr ha hh
    have h0 := hh a (by simp)
    refine ⟨h0.1, h0.2, ih ?_ ?_ ?_⟩
    · exact (List.pairwise_cons.1 hr).2
    · intro i hi
      have := ha (i + 1) (by simp; omega)
      simpa [frv] using this
    · intro s hs
      cases l with
      | nil => simp at hs
      | cons c l =>
        simp at hs
        subst hs
        have h1 := (List.pairwise_cons.1 hr).1 c (by simp)
        have h2 := ha 0 (by simp)
        exact ⟨by omega, by simpa [frv] using h2⟩
/-- A PROFILE IS KNOWN BY WHAT IT SAYS. -/
theorem valid_eq {l m : List Step} (hl : Valid l) (hm : Valid m) (he : ∀ t, 0 ≤ t → val l t = val m t) : l = m := by
  have hf : ∀ {x : List Step}, Valid x → ∃ f r, x = ⟨0, f⟩ :: r ∧ Canon f 1 r := by
    intro x hx
    cases x with
    | nil => exact absurd hx.pos (by simp)
    | cons a r =>
      have h0 : a.at_ = 0 := hx.zero
      refine ⟨a.free, r, by cases a; simp_all, ?_⟩
      have hc := canon_of (d := a.free + 1) (b := 0) hx.rises (fun i hi => (hx.next i hi).2) (by intro s hs; simp at hs; subst hs; exact ⟨by omega, by omega⟩)
      have := hc.2.2
      rw [h0] at this
      exact this
  obtain ⟨f, r, rfl, hr⟩ := hf hl
  obtain ⟨g, q, rfl, hq⟩ := hf hm
  have h0 := he 0 (Int.le_refl _)
  rw [← hl.vf (Int.le_refl _) 0, ← hm.vf (Int.le_refl _) 0, vf_cons, vf_cons] at h0
  simp only [Int.le_refl, if_true] at h0
  rw [vf_skip (fun x hx => by have := hr.ge x hx; omega), vf_skip (fun x hx => by have := hq.ge x hx; omega)] at h0
  subst h0
  congr 1
  refine canon_eq hr hq fun t ht => ?_
  have := he t (by omega)
  rw [← hl.vf (by omega) 0, ← hm.vf (by omega) 0, vf_cons, vf_cons] at this
  simp only [show (0 : Int) ≤ t by omega, if_true] at this
  exact this

end Go.Proofs.Ytjknmnmilladlaa
