/-
  Plain: the reference's step as a relation, and that it says what the program's step says. No program here.
-/
import Derived.Test.YtjknmnmilladlaaP20
namespace Go.Proofs.Ytjknmnmilladlaa

/-- Is a slot hurt at a time of change? -/
def HitAt (up : List Step) (L : List Slot) (s : Slot) : Prop := ∃ t, t ∈ stepT up ++ slotT L ∧ atOf up t < loadOf L t ∧ s.frm ≤ t ∧ t < s.to

theorem hit_of {up : List Step} {L : List Slot} {ts : List Int} {s : Slot} : hitS (overL up L ts) s = true ↔ ∃ t ∈ ts, atOf up t < loadOf L t ∧ s.frm ≤ t ∧ t < s.to := by
  constructor
  · intro h
    unfold hitS hitN at h
    rw [List.any_eq_true] at h
    obtain ⟨i, hi, hx⟩ := h
    rw [List.mem_range] at hi
    have hi2 : i < ts.length := by simpa [overL] using hi
    have ha : atv (overL up L ts) i = ts[i] := by simp [atv, overL, hi2]
    have hf : frv (overL up L ts) i = loadOf L ts[i] - atOf up ts[i] := by simp [frv, overL, hi2]
    rw [ha, hf] at hx
    unfold hitX at hx
    simp only [Bool.and_eq_true, decide_eq_true_eq] at hx
    exact ⟨ts[i], List.getElem_mem _, by omega, hx.1.2, hx.2⟩
  · rintro ⟨t, ht, h1, h2, h3⟩
    exact hitS_of ht (by omega) h2 h3
theorem foldl_mxS_hit {all : List Step} {L : List Slot} (m : Int) : L.foldl (mxS all) m = m ∨ ∃ s ∈ L, hitS all s = true ∧ s.id = L.foldl (mxS all) m := by
  induction L generalizing m with
  | nil => exact .inl rfl
  | cons a L ih =>
    rw [List.foldl_cons]
    rcases ih (mxS all m a) with h | ⟨s, hs, h, h2⟩
    · rw [h]
      unfold mxS
      split
      · rename_i hc
        exact .inr ⟨a, List.mem_cons_self, hc.2, rfl⟩
      · exact .inl rfl
    · exact .inr ⟨s, List.mem_cons_of_mem _ hs, h, h2⟩
theorem hurt_iff {up : List Step} {L : List Slot} {id : Int} : HurtIs up L id ↔ 0 ≤ id ∧ (∀ s ∈ L, HitAt up L s → s.id ≤ id) ∧ (id = 0 ∨ ∃ s ∈ L, HitAt up L s ∧ s.id = id) := by
  constructor
  · rintro ⟨ts, hts, rfl⟩
    have hh : ∀ s, hitS (overL up L ts) s = true ↔ HitAt up L s := by
      intro s
      rw [hit_of]
      unfold HitAt
      simp only [hts]
    have hg := foldl_mxS_ge (all := overL up L ts) (L := L) 0
    refine ⟨hg.1, fun s hs h => hg.2 s hs ((hh s).2 h), ?_⟩
    rcases foldl_mxS_hit (all := overL up L ts) (L := L) 0 with h | ⟨s, hs, h, h2⟩
    · exact .inl h
    · exact .inr ⟨s, hs, (hh s).1 h, h2⟩
  · rintro ⟨h0, h1, h2⟩
    refine ⟨stepT up ++ slotT L, fun t => Iff.rfl, ?_⟩
    have hh : ∀ s, hitS (overL up L (stepT up ++ slotT L)) s = true ↔ HitAt up L s := by
      intro s
      rw [hit_of]
      rfl
    have hg := foldl_mxS_ge (all := overL up L (stepT up ++ slotT L)) (L := L) 0
    unfold hurtOf
    have hle : L.foldl (mxS (overL up L (stepT up ++ slotT L))) 0 ≤ id := by
      rcases foldl_mxS_hit (all := overL up L (stepT up ++ slotT L)) (L := L) 0 with h | ⟨s, hs, h, h3⟩
      · rw [h]; exact h0
      · rw [← h3]; exact h1 s hs ((hh s).1 h)
    have hge : id ≤ L.foldl (mxS (overL up L (stepT up ++ slotT L))) 0 := by
      rcases h2 with h | ⟨s, hs, h, h3⟩
      · rw [h]; exact hg.1
      · rw [← h3]; exact hg.2 s hs ((hh s).2 h)
    omega
theorem HitAt.perm {up : List Step} {L K : List Slot} (hp : L.Perm K) {s : Slot} (h : HitAt up L s) : HitAt up K s := by
  obtain ⟨t, ht, h1, h2, h3⟩ := h
  refine ⟨t, ?_, by rw [← loadOf_perm hp]; exact h1, h2, h3⟩
  rw [List.mem_append] at ht ⊢
  rcases ht with ht | ht
  · exact .inl ht
  · exact .inr ((mem_slotT_perm hp).1 ht)
theorem hurt_det {up : List Step} {L K : List Slot} {a b : Int} (hp : L.Perm K) (h : HurtIs up L a) (k : HurtIs up K b) : a = b := by
  obtain ⟨a0, a1, a2⟩ := hurt_iff.1 h
  obtain ⟨b0, b1, b2⟩ := hurt_iff.1 k
  have h1 : a ≤ b := by
    rcases a2 with h | ⟨s, hs, h, h3⟩
    · omega
    · rw [← h3]; exact b1 s (hp.subset hs) (h.perm hp)
  have h2 : b ≤ a := by
    rcases b2 with h | ⟨s, hs, h, h3⟩
    · omega
    · rw [← h3]; exact a1 s (hp.symm.subset hs) (h.perm hp.symm)
  omega

theorem Gone.front {up : List Step} {L0 L : List Slot} {G : List Int} (h : Gone up L0 G L) : (G = [] ∧ L = L0) ∨ ∃ (s : Slot) (G2 : List Int), G = s.id :: G2 ∧ s ∈ L0 ∧ HurtIs up L0 s.id ∧ Gone up (without L0 s.id) G2 L := by
  induction h with
  | nil => exact .inl ⟨rfl, rfl⟩
  | @snoc G L s hg hs hh ih =>
    right
    rcases ih with ⟨rfl, rfl⟩ | ⟨s2, G2, rfl, h1, h2, h3⟩
    · exact ⟨s, [], rfl, hs, hh, .nil⟩
    · exact ⟨s2, G2 ++ [s.id], by simp, h1, h2, .snoc h3 hs hh⟩

/-- Who goes is settled. -/
theorem gone_det {up : List Step} : ∀ (G : List Int) {L0 S0 L S : List Slot} {H : List Int}, (∀ x ∈ L0, 1 ≤ x.id) → S0.Perm L0 → Gone up L0 G L → HurtIs up L 0 → Gone up S0 H S → HurtIs up S 0 → H = G ∧ S.Perm L := by
  intro G
  induction G with
  | nil =>
    intro L0 S0 L S H h1 hp h hz k kz
    rcases h.front with ⟨_, rfl⟩ | ⟨s, G2, hc, _⟩
    · rcases k.front with ⟨rfl, rfl⟩ | ⟨s, G2, _, hs, hh, _⟩
      · exact ⟨rfl, hp⟩
      · have := hurt_det hp hh hz
        have := h1 s (hp.subset hs)
        omega
    · exact absurd hc (by simp)
  | cons g G ih =>
    intro L0 S0 L S H h1 hp h hz k kz
    rcases h.front with ⟨hc, _⟩ | ⟨s, G2, hc, hs, hh, hg⟩
    · exact absurd hc (by simp)
    · injection hc with hc1 hc2
      subst hc2
      rcases k.front with ⟨rfl, rfl⟩ | ⟨s2, H2, rfl, hs2, hh2, hg2⟩
      · have := hurt_det hp kz hh
        have := h1 s hs
        omega
      · have he : s2.id = s.id := hurt_det hp hh2 hh
        rw [he] at hg2
        obtain ⟨e1, e2⟩ := ih (S0 := without S0 s.id) (fun x hx => h1 x ((without_sub L0 s.id).subset hx)) (hp.filter _) hg hz hg2 kz
        exact ⟨by rw [e1, he, hc1], e2⟩

theorem room_hurt {up : List Step} {S : List Slot} (h : RoomOf up S) : HurtIs up S 0 := by
  refine hurt_iff.2 ⟨Int.le_refl _, ?_, .inl rfl⟩
  rintro s _ ⟨t, ht, h1, _⟩
  have := h t (List.mem_cons_of_mem _ ht)
  omega

/-- What the reference does. -/
inductive RefStep (n : Int) (up : List Step) (S : List Slot) (d : Do) : List Int → Int → List Step → List Slot → Prop
  | takeArg : d.kind = 1 → rightOf n d.s = false → RefStep n up S d [] 2 up S
  | takeTwice {x : Slot} : d.kind = 1 → rightOf n d.s = true → x ∈ S → x.id = d.s.id → RefStep n up S d [] 51 up S
  | takeLong : d.kind = 1 → rightOf n d.s = true → (∀ x ∈ S, x.id ≠ d.s.id) → 9000 ≤ S.length → RefStep n up S d [] 3 up S
  | takeRoom {T : List Slot} : d.kind = 1 → rightOf n d.s = true → (∀ x ∈ S, x.id ≠ d.s.id) → S.length < 9000 → Ins S d.s T → ¬ RoomOf up T → RefStep n up S d [] 70 up S
  | take {T : List Slot} : d.kind = 1 → rightOf n d.s = true → (∀ x ∈ S, x.id ≠ d.s.id) → S.length < 9000 → Ins S d.s T → RoomOf up T → RefStep n up S d [] 0 up T
  | none : d.kind ≠ 1 → d.kind ≠ 5 → (∀ x ∈ S, x.id ≠ d.s.id) → RefStep n up S d [] 4 up S
  | free {s : Slot} : d.kind = 2 → s ∈ S → s.id = d.s.id → RefStep n up S d [] 0 up (without S d.s.id)
  | cutArg {s : Slot} : d.kind = 3 → s ∈ S → s.id = d.s.id → (isT d.s.to = false ∨ s.to < d.s.to) → RefStep n up S d [] 2 up S
  | cutAll {s : Slot} : d.kind = 3 → s ∈ S → s.id = d.s.id → isT d.s.to = true → d.s.to ≤ s.to → d.s.to ≤ s.frm → RefStep n up S d [] 0 up (without S d.s.id)
  | cut {s : Slot} {T : List Slot} : d.kind = 3 → s ∈ S → s.id = d.s.id → isT d.s.to = true → d.s.to ≤ s.to → s.frm < d.s.to → Ins (without S d.s.id) ⟨s.id, s.frm, d.s.to, s.nodes⟩ T → RefStep n up S d [] 0 up T
  | moveTime {s : Slot} : d.kind ≠ 1 → d.kind ≠ 2 → d.kind ≠ 3 → d.kind ≠ 5 → s ∈ S → s.id = d.s.id → isT d.s.frm = false → RefStep n up S d [] 2 up S
  | moveArg {s : Slot} : d.kind ≠ 1 → d.kind ≠ 2 → d.kind ≠ 3 → d.kind ≠ 5 → s ∈ S → s.id = d.s.id → isT d.s.frm = true → rightOf n (moved s d.s.frm) = false → RefStep n up S d [] 2 up S
  | moveRoom {s : Slot} {T : List Slot} : d.kind ≠ 1 → d.kind ≠ 2 → d.kind ≠ 3 → d.kind ≠ 5 → s ∈ S → s.id = d.s.id → isT d.s.frm = true → rightOf n (moved s d.s.frm) = true → Ins (without S d.s.id) (moved s d.s.frm) T → ¬ RoomOf up T → RefStep n up S d [] 70 up S
  | move {s : Slot} {T : List Slot} : d.kind ≠ 1 → d.kind ≠ 2 → d.kind ≠ 3 → d.kind ≠ 5 → s ∈ S → s.id = d.s.id → isT d.s.frm = true → rightOf n (moved s d.s.frm) = true → Ins (without S d.s.id) (moved s d.s.frm) T → RoomOf up T → RefStep n up S d [] 0 up T
  | outArg : d.kind = 5 → outArg n d.s.frm d.s.to d.s.nodes = false → RefStep n up S d [] 2 up S
  | outLong : d.kind = 5 → Ytjknmnmilladlaa.outArg n d.s.frm d.s.to d.s.nodes = true → 1000 < (outUp up d.s.frm d.s.to d.s.nodes).length → RefStep n up S d [] 3 up S
  | out {G g : List Int} {T : List Slot} : d.kind = 5 → Ytjknmnmilladlaa.outArg n d.s.frm d.s.to d.s.nodes = true → (outUp up d.s.frm d.s.to d.s.nodes).length ≤ 1000 → Gone (outUp up d.s.frm d.s.to d.s.nodes) S G T → RoomOf (outUp up d.s.frm d.s.to d.s.nodes) T → g.Perm G → g.Pairwise (· ≤ ·) → RefStep n up S d g 0 (outUp up d.s.frm d.s.to d.s.nodes) T

theorem SortedOf.without {L S : List Slot} (h : SortedOf L S) (id : Int) : SortedOf (without L id) (without S id) :=
  ⟨h.1.filter _, h.2.sublist (without_sub S id)⟩

/-- The reference's step is the program's. -/
theorem agree {n : Int} {up fr : List Step} {L S : List Slot} {d : Do} (hI : Inv n up fr L) (hS : SortedOf L S) {ids ids' : List Int} {err err' : Int} {up2 up2' fr2 : List Step} {L2 S2 : List Slot} (h : DoStep n up fr L d ids err up2 fr2 L2) (k : RefStep n up S d ids' err' up2' S2) :
    ids' = ids ∧ err' = err ∧ up2' = up2 ∧ SortedOf L2 S2 := by
  have hm : ∀ x, x ∈ S ↔ x ∈ L := fun x => hS.1.mem_iff
  have hlen : S.length = L.length := hS.1.length_eq
  have hno : (∀ x ∈ S, x.id ≠ d.s.id) → ∀ x ∈ L, x.id ≠ d.s.id := fun h x hx => h x ((hm x).2 hx)
  have hone : ∀ {x y : Slot}, x ∈ S → x.id = d.s.id → y ∈ L → y.id = d.s.id → x = y := fun {x y} h1 h2 h3 h4 => slot_one hI.ids ((hm x).1 h1) h3 (by omega)
  have hwo : ∀ {s : Slot}, s ∈ L → s.id = d.s.id → Inv n up (addRes fr s.frm s.to s.nodes) (without L s.id) ∧ (without L s.id).length < 9000 := fun {s} hs hi => ⟨(hI.drop hs).2.1, by have := without_lt hs; have := hI.len; omega⟩
  cases k with
  | takeArg k1 k2 =>
    obtain ⟨rfl, rfl, h3 | h3⟩ := h.take_inv k1
    · obtain ⟨rfl, rfl, h4 | h4 | h4 | h4⟩ := h3
      · exact ⟨rfl, h4.2.symm, rfl, hS⟩
      · rw [k2] at h4; exact absurd h4.1 (by simp)
      · rw [k2] at h4; exact absurd h4.1 (by simp)
      · rw [k2] at h4; exact absurd h4.1 (by simp)
    · rw [k2] at h3; exact absurd h3.2.1 (by simp)
  | @takeTwice x k1 k2 k3 k4 =>
    obtain ⟨rfl, rfl, h3 | h3⟩ := h.take_inv k1
    · obtain ⟨rfl, rfl, h4 | h4 | h4 | h4⟩ := h3
      · rw [k2] at h4; exact absurd h4.1 (by simp)
      · exact ⟨rfl, h4.2.2.symm, rfl, hS⟩
      · exact absurd k4 (h4.2.1 x ((hm x).1 k3))
      · exact absurd k4 (h4.2.1 x ((hm x).1 k3))
    · exact absurd k4 (h3.2.2.1 x ((hm x).1 k3))
  | takeLong k1 k2 k3 k4 =>
    obtain ⟨rfl, rfl, h3 | h3⟩ := h.take_inv k1
    · obtain ⟨rfl, rfl, h4 | h4 | h4 | h4⟩ := h3
      · rw [k2] at h4; exact absurd h4.1 (by simp)
      · obtain ⟨_, ⟨x, hx, hi⟩, _⟩ := h4; exact absurd hi (hno k3 x hx)
      · exact ⟨rfl, h4.2.2.2.symm, rfl, hS⟩
      · exact absurd h4.2.2.1 (by omega)
    · exact absurd h3.2.2.2.1 (by omega)
  | @takeRoom T k1 k2 k3 k4 k5 k6 =>
    have hr := room_lay hI hS.1 k2 k5 (k5.fine (hI.fine hS.1) k2 k4)
    obtain ⟨rfl, rfl, h3 | h3⟩ := h.take_inv k1
    · obtain ⟨rfl, rfl, h4 | h4 | h4 | h4⟩ := h3
      · rw [k2] at h4; exact absurd h4.1 (by simp)
      · obtain ⟨_, ⟨x, hx, hi⟩, _⟩ := h4; exact absurd hi (hno k3 x hx)
      · exact absurd h4.2.2.1 (by omega)
      · exact ⟨rfl, h4.2.2.2.2.symm, rfl, hS⟩
    · exact absurd (hr.2 h3.2.2.2.2.1) k6
  | @take T k1 k2 k3 k4 k5 k6 =>
    have hr := room_lay hI hS.1 k2 k5 (k5.fine (hI.fine hS.1) k2 k4)
    obtain ⟨rfl, rfl, h3 | h3⟩ := h.take_inv k1
    · obtain ⟨rfl, rfl, h4 | h4 | h4 | h4⟩ := h3
      · rw [k2] at h4; exact absurd h4.1 (by simp)
      · obtain ⟨_, ⟨x, hx, hi⟩, _⟩ := h4; exact absurd hi (hno k3 x hx)
      · exact absurd h4.2.2.1 (by omega)
      · exact absurd (hr.1 k6) h4.2.2.2.1
    · obtain ⟨rfl, _, _, _, _, _, rfl⟩ := h3
      exact ⟨rfl, rfl, rfl, k5.sorted hS⟩
  | none k1 k2 k3 =>
    have hn := hno k3
    by_cases d2 : d.kind = 2
    · obtain ⟨rfl, rfl, h3 | h3⟩ := h.free_inv d2
      · obtain ⟨rfl, rfl, _, rfl⟩ := h3
        exact ⟨rfl, rfl, rfl, hS⟩
      · obtain ⟨_, s, hs, hi, _⟩ := h3
        exact absurd hi (hn s hs)
    · by_cases d3 : d.kind = 3
      · obtain ⟨rfl, rfl, h3 | h3⟩ := h.cut_inv d3
        · obtain ⟨rfl, rfl, _, rfl⟩ := h3
          exact ⟨rfl, rfl, rfl, hS⟩
        · obtain ⟨s, hs, hi, _⟩ := h3
          exact absurd hi (hn s hs)
      · obtain ⟨rfl, rfl, h3 | h3⟩ := h.move_inv k1 d2 d3 k2
        · obtain ⟨rfl, rfl, _, rfl⟩ := h3
          exact ⟨rfl, rfl, rfl, hS⟩
        · obtain ⟨s, hs, hi, _⟩ := h3
          exact absurd hi (hn s hs)
  | @free s k1 k2 k3 =>
    obtain ⟨rfl, rfl, h3 | h3⟩ := h.free_inv k1
    · exact absurd k3 (h3.2.2.1 s ((hm s).1 k2))
    · obtain ⟨rfl, s2, hs, hi, _, rfl⟩ := h3
      rw [← hi]
      exact ⟨rfl, rfl, rfl, hS.without _⟩
  | @cutArg s k1 k2 k3 k4 =>
    obtain ⟨rfl, rfl, h3 | h3⟩ := h.cut_inv k1
    · exact absurd k3 (h3.2.2.1 s ((hm s).1 k2))
    · obtain ⟨s2, hs, hi, h4⟩ := h3
      obtain rfl := hone k2 k3 hs hi
      rcases h4 with h4 | h4 | h4
      · obtain ⟨rfl, rfl, _, rfl⟩ := h4
        exact ⟨rfl, rfl, rfl, hS⟩
      · rcases k4 with k4 | k4
        · rw [k4] at h4; exact absurd h4.2.1 (by simp)
        · exact absurd h4.2.2.1 (by omega)
      · rcases k4 with k4 | k4
        · rw [k4] at h4; exact absurd h4.2.1 (by simp)
        · exact absurd h4.2.2.1 (by omega)
  | @cutAll s k1 k2 k3 k4 k5 k6 =>
    obtain ⟨rfl, rfl, h3 | h3⟩ := h.cut_inv k1
    · exact absurd k3 (h3.2.2.1 s ((hm s).1 k2))
    · obtain ⟨s2, hs, hi, h4⟩ := h3
      obtain rfl := hone k2 k3 hs hi
      rcases h4 with h4 | h4 | h4
      · rcases h4.2.2.1 with h5 | h5
        · rw [k4] at h5; exact absurd h5 (by simp)
        · omega
      · obtain ⟨rfl, _, _, _, _, rfl⟩ := h4
        rw [← hi]
        exact ⟨rfl, rfl, rfl, hS.without _⟩
      · exact absurd h4.2.2.2.1 (by omega)
  | @cut s T k1 k2 k3 k4 k5 k6 k7 =>
    obtain ⟨rfl, rfl, h3 | h3⟩ := h.cut_inv k1
    · exact absurd k3 (h3.2.2.1 s ((hm s).1 k2))
    · obtain ⟨s2, hs, hi, h4⟩ := h3
      obtain rfl := hone k2 k3 hs hi
      rcases h4 with h4 | h4 | h4
      · rcases h4.2.2.1 with h5 | h5
        · rw [k4] at h5; exact absurd h5 (by simp)
        · omega
      · exact absurd h4.2.2.2.1 (by omega)
      · obtain ⟨rfl, _, _, _, _, _, rfl⟩ := h4
        rw [← hi] at k7
        exact ⟨rfl, rfl, rfl, k7.sorted (hS.without _)⟩
  | @moveTime s d1 d2 d3 d5 k2 k3 k4 =>
    obtain ⟨rfl, rfl, h3 | h3⟩ := h.move_inv d1 d2 d3 d5
    · exact absurd k3 (h3.2.2.1 s ((hm s).1 k2))
    · obtain ⟨s2, hs, hi, h4⟩ := h3
      obtain rfl := hone k2 k3 hs hi
      rcases h4 with h4 | h4 | h4
      · obtain ⟨rfl, rfl, _, rfl⟩ := h4
        exact ⟨rfl, rfl, rfl, hS⟩
      · rw [k4] at h4; exact absurd h4.2.1 (by simp)
      · rw [k4] at h4; exact absurd h4.2.1 (by simp)
  | @moveArg s d1 d2 d3 d5 k2 k3 k4 k5 =>
    obtain ⟨rfl, rfl, h3 | h3⟩ := h.move_inv d1 d2 d3 d5
    · exact absurd k3 (h3.2.2.1 s ((hm s).1 k2))
    · obtain ⟨s2, hs, hi, h4⟩ := h3
      obtain rfl := hone k2 k3 hs hi
      rcases h4 with h4 | h4 | h4
      · obtain ⟨rfl, rfl, _, rfl⟩ := h4
        exact ⟨rfl, rfl, rfl, hS⟩
      · rw [k5] at h4; exact absurd h4.2.2.1 (by simp)
      · rw [k5] at h4; exact absurd h4.2.2.1 (by simp)
  | @moveRoom s T d1 d2 d3 d5 k2 k3 k4 k5 k6 k7 =>
    obtain ⟨rfl, rfl, h3 | h3⟩ := h.move_inv d1 d2 d3 d5
    · exact absurd k3 (h3.2.2.1 s ((hm s).1 k2))
    · obtain ⟨s2, hs, hi, h4⟩ := h3
      obtain rfl := hone k2 k3 hs hi
      obtain ⟨hIw, hlw⟩ := hwo hs hi
      rw [← hi] at k6
      have hSw := hS.without s.id
      have hr := room_lay hIw hSw.1 k5 k6 (k6.fine (hIw.fine hSw.1) k5 (by rw [hSw.1.length_eq]; exact hlw))
      rcases h4 with h4 | h4 | h4
      · rcases h4.2.2.1 with h5 | h5
        · rw [k4] at h5; exact absurd h5 (by simp)
        · rw [k5] at h5; exact absurd h5.2 (by simp)
      · obtain ⟨rfl, _, _, _, _, _, rfl⟩ := h4
        refine ⟨rfl, rfl, rfl, ?_, hS.2⟩
        refine hS.1.trans ?_
        have nd : ∀ {M : List Slot}, (M.Pairwise fun a b => a.id ≠ b.id) → M.Nodup := fun h => h.imp fun {a b} hab he => hab (by rw [he])
        have hmw : ∀ x, x ∈ without L s.id ↔ x ∈ L ∧ x.id ≠ s.id := by
          intro x
          unfold Ytjknmnmilladlaa.without
          rw [List.mem_filter]
          simp
        have hnd : (without L s.id ++ [s]).Nodup := by
          rw [List.nodup_append]
          refine ⟨nd hIw.ids, by simp, ?_⟩
          intro a ha b hb he
          simp at hb
          subst hb
          subst he
          exact ((hmw _).1 ha).2 rfl
        rw [List.perm_ext_iff_of_nodup (nd hI.ids) hnd]
        intro x
        rw [List.mem_append, hmw x, List.mem_singleton]
        constructor
        · intro hx
          by_cases he : x.id = s.id
          · exact .inr (slot_one hI.ids hx hs he)
          · exact .inl ⟨hx, he⟩
        · rintro (hx | rfl)
          · exact hx.1
          · exact hs
      · exact absurd (hr.2 h4.2.2.2.1) k7
  | @move s T d1 d2 d3 d5 k2 k3 k4 k5 k6 k7 =>
    obtain ⟨rfl, rfl, h3 | h3⟩ := h.move_inv d1 d2 d3 d5
    · exact absurd k3 (h3.2.2.1 s ((hm s).1 k2))
    · obtain ⟨s2, hs, hi, h4⟩ := h3
      obtain rfl := hone k2 k3 hs hi
      obtain ⟨hIw, hlw⟩ := hwo hs hi
      rw [← hi] at k6
      have hSw := hS.without s.id
      have hr := room_lay hIw hSw.1 k5 k6 (k6.fine (hIw.fine hSw.1) k5 (by rw [hSw.1.length_eq]; exact hlw))
      rcases h4 with h4 | h4 | h4
      · rcases h4.2.2.1 with h5 | h5
        · rw [k4] at h5; exact absurd h5 (by simp)
        · rw [k5] at h5; exact absurd h5.2 (by simp)
      · exact absurd (hr.1 k7) h4.2.2.2.1
      · obtain ⟨rfl, _, _, _, _, rfl⟩ := h4
        exact ⟨rfl, rfl, rfl, k6.sorted hSw⟩
  | outArg k1 k2 =>
    rcases h.out_inv k1 with ⟨rfl, rfl, rfl, rfl, h3 | h3⟩ | h3
    · exact ⟨rfl, h3.2.symm, rfl, hS⟩
    · rw [k2] at h3; exact absurd h3.1 (by simp)
    · rw [k2] at h3; exact absurd h3.2.1 (by simp)
  | outLong k1 k2 k3 =>
    rcases h.out_inv k1 with ⟨rfl, rfl, rfl, rfl, h3 | h3⟩ | h3
    · rw [k2] at h3; exact absurd h3.1 (by simp)
    · exact ⟨rfl, h3.2.2.symm, rfl, hS⟩
    · exact absurd h3.2.2.1 (by omega)
  | @out G g T k1 k2 k3 k4 k5 k6 k7 =>
    rcases h.out_inv k1 with ⟨rfl, rfl, rfl, rfl, h3 | h3⟩ | h3
    · rw [k2] at h3; exact absurd h3.1 (by simp)
    · exact absurd h3.2.1 (by omega)
    · obtain ⟨rfl, _, _, rfl, G2, dn, hg, hz, _, rfl, _⟩ := h3
      obtain ⟨rfl, hp⟩ := gone_det G2 (fun x hx => (right_iff.1 (hI.rt x hx)).1) hS.1 hg hz k4 (room_hurt k5)
      refine ⟨?_, rfl, rfl, hp, hS.2.sublist k4.sub⟩
      refine List.Perm.eq_of_pairwise (le := fun a b => a ≤ b) (fun a b _ _ h1 h2 => by omega) k7 ?_ (k6.trans (List.mergeSort_perm _ _).symm)
      have hsrt := List.pairwise_mergeSort (le := fun x y : Int => decide (x ≤ y)) (fun a b c h1 h2 => by simp only [decide_eq_true_eq] at h1 h2 ⊢; omega) (fun a b => by simp only [Bool.or_eq_true, decide_eq_true_eq]; omega) G
      exact hsrt.imp fun {a b} h => by simpa using h

end Go.Proofs.Ytjknmnmilladlaa
