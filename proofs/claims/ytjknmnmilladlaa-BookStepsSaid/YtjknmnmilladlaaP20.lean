/-
  Plain: what the reference's book says, in the program's words: free profiles, nodes out, room. No program here.
-/
import Derived.Test.YtjknmnmilladlaaR11
namespace Go.Proofs.Ytjknmnmilladlaa

theorem tidy_is {l m : List Step} (hr : Rises l) (hn : 0 < l.length) (h0 : atv l 0 = 0) (hm : Valid m) (he : ∀ t, 0 ≤ t → vf 0 l t = val m t) : tidy l = m := by
  have hd : ∀ d t, 0 ≤ t → vf d l t = vf 0 l t := by
    intro d t ht
    cases l with
    | nil => simp at hn
    | cons a l =>
      have ha : a.at_ = 0 := h0
      rw [vf_cons, vf_cons, if_pos (by omega), if_pos (by omega)]
  obtain ⟨d, h1, h2⟩ : ∃ d : Int, frv (tidy l) 0 ≠ d ∧ frv m 0 ≠ d := by
    refine ⟨max (frv (tidy l) 0) (frv m 0) + 1, by omega, by omega⟩
  have hhead : ∀ s ∈ (tidy l).head?, (0 : Int) ≤ s.at_ ∧ s.free ≠ d := by
    cases l with
    | nil => simp at hn
    | cons a l =>
      obtain ⟨r, hr⟩ := tidy_head a l
      rw [hr] at h1 ⊢
      intro s hs
      simp at hs
      subst hs
      have ha : a.at_ = 0 := h0
      exact ⟨by omega, by simpa [frv] using h1⟩
  have hhead2 : ∀ s ∈ m.head?, (0 : Int) ≤ s.at_ ∧ s.free ≠ d := by
    have hp := hm.pos
    have hz := hm.zero
    cases m with
    | nil => simp at hp
    | cons a m =>
      intro s hs
      simp at hs
      subst hs
      have ha : a.at_ = 0 := hz
      exact ⟨by omega, by simpa [frv] using h2⟩
  refine canon_eq (d := d) (b := 0) (canon_of (List.Pairwise.sublist (tidy_sub l) hr) (tidy_alt l) hhead) (canon_of hm.rises (fun i hi => (hm.next i hi).2) hhead2) fun t ht => ?_
  rw [tidy_vf d t hr, hd d t ht, he t ht, hm.vf ht d]

theorem vf_map {G : Int → Int} {x t : Int} (hxt : x ≤ t) : ∀ {ts : List Int}, ts.Pairwise (· < ·) → x ∈ ts → (∀ y ∈ ts, x < y → t < y) → ∀ d, vf d (ts.map fun y => (⟨y, G y⟩ : Step)) t = G x := by
  intro ts
  induction ts with
  | nil => intro _ hx; simp at hx
  | cons a ts ih =>
    intro hr hx hn d
    obtain ⟨h1, h2⟩ := List.pairwise_cons.1 hr
    rw [List.map_cons, vf_cons]
    by_cases hxa : x = a
    · subst hxa
      simp only
      rw [if_pos hxt]
      refine vf_skip fun s hs => ?_
      rw [List.mem_map] at hs
      obtain ⟨y, hy, rfl⟩ := hs
      exact hn y (List.mem_cons_of_mem _ hy) (h1 y hy)
    · have hx2 : x ∈ ts := by
        rcases List.mem_cons.1 hx with h | h
        · exact absurd h hxa
        · exact h
      exact ih h2 hx2 (fun y hy => hn y (List.mem_cons_of_mem _ hy)) _

theorem stepT_map (ts : List Int) (G : Int → Int) : stepT (ts.map fun y => (⟨y, G y⟩ : Step)) = ts := by
  unfold stepT
  rw [List.map_map]
  exact List.map_id' ts

theorem vf_map_all {ts : List Int} {G : Int → Int} (hr : ts.Pairwise (· < ·)) (h0 : (0 : Int) ∈ ts) (hG : ∀ t, 0 < t → t ∉ ts → G t = G (t - 1)) : ∀ t, 0 ≤ t → vf 0 (ts.map fun y => (⟨y, G y⟩ : Step)) t = G t := by
  have key : ∀ (n : Nat) (t : Int), t = n → vf 0 (ts.map fun y => (⟨y, G y⟩ : Step)) t = G t := by
    intro n
    induction n with
    | zero =>
      rintro t rfl
      exact vf_map (Int.le_refl _) hr h0 (fun y _ h => h) 0
    | succ n ih =>
      intro t ht
      by_cases hm : t ∈ ts
      · exact vf_map (Int.le_refl _) hr hm (fun y _ h => h) 0
      · rw [vf_const 0 (by rw [stepT_map]; exact hm), hG t (by omega) hm]
        exact ih (t - 1) (by omega)
  intro t ht
  exact key t.toNat t (by omega)

theorem map_rises {ts : List Int} {G : Int → Int} (h : ts.Pairwise (· < ·)) : Rises (ts.map fun y => (⟨y, G y⟩ : Step)) := by
  unfold Rises
  rw [List.pairwise_map]
  exact h
theorem map_zero {ts : List Int} {G : Int → Int} (hr : ts.Pairwise (· < ·)) (h0 : (0 : Int) ∈ ts) (hp : ∀ t ∈ ts, 0 ≤ t) : 0 < (ts.map fun y => (⟨y, G y⟩ : Step)).length ∧ atv (ts.map fun y => (⟨y, G y⟩ : Step)) 0 = 0 := by
  cases ts with
  | nil => simp at h0
  | cons a ts =>
    refine ⟨by simp, ?_⟩
    show a = 0
    have h1 := hp a List.mem_cons_self
    rcases List.mem_cons.1 h0 with h | h
    · exact h.symm
    · have := (List.pairwise_cons.1 hr).1 0 h
      omega

theorem val_const {up : List Step} (hu : Valid up) {t : Int} (ht : 0 < t) (h : t ∉ stepT up) : val up t = val up (t - 1) := by
  rw [← hu.vf (by omega) 0, ← hu.vf (by omega) 0, vf_const 0 h]

/-- The reference's Steps is what is free. -/
theorem steps_are {n : Int} {up fr : List Step} {L S : List Slot} (hI : Inv n up fr L) (hS : S.Perm L) {ts : List Int} (hr : ts.Pairwise (· < ·)) (hm : ∀ t, t ∈ ts ↔ t = 0 ∨ t ∈ stepT up ++ slotT S) (hp : ∀ t ∈ ts, isT t = true) : tidy (ts.map (freeAt up S)) = fr := by
  have he : ts.map (freeAt up S) = ts.map fun y => (⟨y, val up y - loadOf S y⟩ : Step) := by
    apply List.map_congr_left
    intro t ht
    have h1 := isT_iff.1 (hp t ht)
    unfold freeAt
    rw [atOf_val hI.vu h1.1 h1.2]
  have h0 : (0 : Int) ∈ ts := (hm 0).2 (.inl rfl)
  have hz := map_zero (G := fun y => val up y - loadOf S y) hr h0 (fun t ht => (isT_iff.1 (hp t ht)).1)
  rw [he]
  refine tidy_is (map_rises hr) hz.1 hz.2 hI.vf fun t ht => ?_
  rw [hI.eq t ht, ← loadOf_perm hS]
  refine vf_map_all (G := fun y => val up y - loadOf S y) hr h0 (fun t ht hn => ?_) t ht
  have h1 : t ∉ stepT up ++ slotT S := fun h => hn ((hm t).2 (.inr h))
  rw [List.mem_append] at h1
  rw [val_const hI.vu ht (fun h => h1 (.inl h)), load_const (fun h => h1 (.inr h))]

def outAt (up : List Step) (frm to k : Int) (t : Int) : Step := ⟨t, if frm ≤ t ∧ t < to then max (atOf up t - k) 0 else atOf up t⟩
/-- The reference's profile behind Out. -/
theorem outs_are {up : List Step} (hu : Valid up) (hul : up.length ≤ 1000) {frm to k : Int} (h0 : 0 ≤ frm) (h1 : frm < to) (h2 : to ≤ 1099511627775) (hk : 1 ≤ k ∧ k ≤ 10000) {ts : List Int} (hr : ts.Pairwise (· < ·)) (hm : ∀ t, t ∈ ts ↔ t ∈ [frm, to] ++ stepT up) : tidy (ts.map (outAt up frm to k)) = outUp up frm to k := by
  obtain ⟨hv, _, hval⟩ := outUp_ok hu hul h0 h1 h2 hk
  have hz0 : (0 : Int) ∈ stepT up := by
    have := hu.zero
    rw [← this]
    unfold stepT
    rw [List.mem_map]
    exact ⟨up[0]'hu.pos, List.getElem_mem hu.pos, by rw [stepAt up 0 hu.pos]⟩
  have hup : ∀ t ∈ stepT up, 0 ≤ t ∧ t ≤ 1099511627775 := by
    intro t ht
    unfold stepT at ht
    rw [List.mem_map] at ht
    obtain ⟨s, hs, rfl⟩ := ht
    obtain ⟨i, hi, rfl⟩ := List.getElem_of_mem hs
    have := hu.time i hi
    rw [stepAt up i hi]
    exact this
  have hp : ∀ t ∈ ts, 0 ≤ t ∧ t ≤ 1099511627775 := by
    intro t ht
    have := (hm t).1 ht
    rw [List.mem_append] at this
    rcases this with h | h
    · simp at h
      rcases h with rfl | rfl <;> omega
    · exact hup t h
  have hz : (0 : Int) ∈ ts := (hm 0).2 (List.mem_append_right _ hz0)
  have he : ts.map (outAt up frm to k) = ts.map fun y => (⟨y, val up y - if frm ≤ y ∧ y < to then min k (val up y) else 0⟩ : Step) := by
    apply List.map_congr_left
    intro t ht
    have h3 := hp t ht
    have h4 := hu.val_range h3.1
    unfold outAt
    rw [atOf_val hu h3.1 h3.2]
    congr 1
    split <;> omega
  have hzz := map_zero (G := fun y => val up y - if frm ≤ y ∧ y < to then min k (val up y) else 0) hr hz (fun t ht => (hp t ht).1)
  rw [he]
  refine tidy_is (map_rises hr) hzz.1 hzz.2 hv fun t ht => ?_
  rw [hval t ht]
  refine vf_map_all (G := fun y => val up y - if frm ≤ y ∧ y < to then min k (val up y) else 0) hr hz (fun t ht hn => ?_) t ht
  have h5 : t ∉ [frm, to] ++ stepT up := fun h => hn ((hm t).2 h)
  rw [List.mem_append] at h5
  have h6 : t ≠ frm ∧ t ≠ to := ⟨fun h => h5 (.inl (by simp [h])), fun h => h5 (.inl (by simp [h]))⟩
  have h7 := val_const hu ht (fun h => h5 (.inr h))
  rw [h7]
  have hc : (frm ≤ t ∧ t < to) ↔ (frm ≤ t - 1 ∧ t - 1 < to) := by omega
  by_cases hcc : frm ≤ t ∧ t < to
  · rw [if_pos hcc, if_pos (hc.1 hcc)]
  · rw [if_neg hcc, if_neg (fun h => hcc (hc.2 h))]

/-- Room, at all times. -/
theorem room_iff {n : Int} {up : List Step} {S : List Slot} (hf : Fine n up S) : RoomOf up S ↔ ∀ t, 0 ≤ t → loadOf S t ≤ val up t := by
  constructor
  · intro h t ht
    obtain ⟨x, hx, hx0, hxt, e1, e2⟩ := change_at hf.u S t.toNat t (by omega)
    have h1 := isT_iff.1 (hf.times x (.inr hx))
    have h2 := h x (List.mem_cons_of_mem _ hx)
    rw [atOf_val hf.u h1.1 h1.2] at h2
    omega
  · intro h t ht
    have h1 := isT_iff.1 (hf.times t (by rcases List.mem_cons.1 ht with h | h; exact .inl h; exact .inr h))
    rw [atOf_val hf.u h1.1 h1.2]
    exact h t h1.1

/-- A slot more, at its place. -/
def Ins (S : List Slot) (s : Slot) (T : List Slot) : Prop := ∃ k, k ≤ S.length ∧ (∀ j, j < k → (S.getD j default).id < s.id) ∧ (k < S.length → s.id ≤ (S.getD k default).id) ∧ T = S.take k ++ [s] ++ S.drop k

theorem Ins.perm {S T : List Slot} {s : Slot} (h : Ins S s T) : T.Perm (S ++ [s]) := by
  obtain ⟨k, _, _, _, rfl⟩ := h
  rw [List.append_assoc]
  refine (List.perm_append_comm_assoc _ _ _).trans ?_
  rw [List.take_append_drop]
  exact List.perm_append_comm
theorem Ins.sorted {L S T : List Slot} {s : Slot} (h : Ins S s T) (hs : SortedOf L S) : SortedOf (L ++ [s]) T := by
  refine ⟨h.perm.trans (hs.1.append_right _), ?_⟩
  obtain ⟨k, hk, h1, h2, rfl⟩ := h
  have hp := hs.2
  rw [← List.take_append_drop k S, List.pairwise_append] at hp
  have ht : ∀ a ∈ S.take k, a.id < s.id := by
    intro a ha
    obtain ⟨j, hj, rfl⟩ := List.getElem_of_mem ha
    have hj2 : j < k ∧ j < S.length := by rw [List.length_take] at hj; omega
    have := h1 j hj2.1
    rw [List.getD_eq_getElem?_getD, List.getElem?_eq_getElem hj2.2] at this
    rw [List.getElem_take]
    exact this
  have hd : ∀ a ∈ S.drop k, s.id ≤ a.id := by
    intro a ha
    obtain ⟨j, hj, rfl⟩ := List.getElem_of_mem ha
    have hj2 : k + j < S.length := by rw [List.length_drop] at hj; omega
    have h3 := h2 (by omega)
    rw [List.getD_eq_getElem?_getD, List.getElem?_eq_getElem (by omega)] at h3
    rw [List.getElem_drop]
    rcases Nat.eq_zero_or_pos j with rfl | hj0
    · exact h3
    · have := (List.pairwise_iff_getElem.1 hs.2) k (k + j) (by omega) hj2 (by omega)
      simp only [Option.getD_some] at h3
      omega
  rw [List.pairwise_append, List.pairwise_append]
  refine ⟨⟨hp.1, by simp, ?_⟩, hp.2.1, ?_⟩
  · intro a ha b hb
    simp at hb
    subst hb
    have := ht a ha
    omega
  · intro a ha b hb
    rw [List.mem_append] at ha
    rcases ha with ha | ha
    · exact hp.2.2 a ha b hb
    · simp at ha
      subst ha
      exact hd b hb
theorem Ins.len {S T : List Slot} {s : Slot} (h : Ins S s T) : T.length = S.length + 1 := by
  have := h.perm.length_eq
  simpa using this
theorem Ins.fine {n : Int} {up : List Step} {S T : List Slot} {s : Slot} (h : Ins S s T) (hf : Fine n up S) (hr : rightOf n s = true) (hl : S.length < 9000) : Fine n up T :=
  ⟨hf.n2, hf.u, by rw [h.len]; omega, fun x hx => by
    have := h.perm.subset hx
    rw [List.mem_append] at this
    rcases this with h1 | h1
    · exact hf.r x h1
    · simp at h1; subst h1; exact hr⟩

/-- There is room for a slot if it can be taken off what is free. -/
theorem room_lay {n : Int} {up fr : List Step} {L S T : List Slot} {s : Slot} (hI : Inv n up fr L) (hS : S.Perm L) (hr : rightOf n s = true) (hi : Ins S s T) (hf : Fine n up T) : RoomOf up T ↔ addErr fr s.frm s.to (-s.nodes) = 0 := by
  rw [room_iff hf, (hI.room hr).1]
  have hl : ∀ t, loadOf T t = loadOf L t + covS t s := by
    intro t
    rw [loadOf_perm hi.perm, loadOf_snoc, loadOf_perm hS]
  have hri := right_iff.1 hr
  constructor
  · intro h t h1 h2
    have h3 := h t (by omega)
    rw [hl t] at h3
    have h4 : covS t s = s.nodes := by unfold covS; rw [if_pos ⟨h1, h2⟩]
    have h5 := hI.eq t (by omega)
    omega
  · intro h t ht
    rw [hl t]
    have h5 := hI.eq t ht
    have h6 := hI.vf.val_range ht
    unfold covS
    by_cases hc : s.frm ≤ t ∧ t < s.to
    · rw [if_pos hc]
      have := h t hc.1 hc.2
      omega
    · rw [if_neg hc]
      omega

theorem Inv.fine {n : Int} {up fr : List Step} {L S : List Slot} (hI : Inv n up fr L) (hS : S.Perm L) : Fine n up S :=
  ⟨hI.n1.2, hI.vu, by rw [hS.length_eq]; exact hI.len, fun s hs => hI.rt s (hS.subset hs)⟩

end Go.Proofs.Ytjknmnmilladlaa
