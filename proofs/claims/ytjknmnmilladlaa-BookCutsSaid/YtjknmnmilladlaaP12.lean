/-
  Plain: who goes when nodes are out, and that the book's invariant holds behind it. No program here.
-/
import Derived.Test.YtjknmnmilladlaaP11
import Derived.Test.YtjknmnmilladlaaW20
namespace Go.Proofs.Ytjknmnmilladlaa

def overL (up : List Step) (L : List Slot) (ts : List Int) : List Step := ts.map fun t => ⟨t, loadOf L t - atOf up t⟩
/-- hurt of over: id, whatever the order in which the times were laid together. -/
def HurtIs (up : List Step) (L : List Slot) (id : Int) : Prop := ∃ ts : List Int, (∀ t, t ∈ ts ↔ t ∈ stepT up ++ slotT L) ∧ hurtOf (overL up L ts) L = id

theorem foldl_mxS {all : List Step} {L : List Slot} (m : Int) : L.foldl (mxS all) m = m ∨ ∃ s ∈ L, s.id = L.foldl (mxS all) m := by
  induction L generalizing m with
  | nil => exact .inl rfl
  | cons a L ih =>
    rw [List.foldl_cons]
    rcases ih (mxS all m a) with h | ⟨s, hs, h⟩
    · rw [h]
      unfold mxS
      split
      · exact .inr ⟨a, List.mem_cons_self, rfl⟩
      · exact .inl rfl
    · exact .inr ⟨s, List.mem_cons_of_mem _ hs, h⟩
theorem foldl_mxS_ge {all : List Step} {L : List Slot} (m : Int) : m ≤ L.foldl (mxS all) m ∧ ∀ s ∈ L, hitS all s = true → s.id ≤ L.foldl (mxS all) m := by
  induction L generalizing m with
  | nil => exact ⟨Int.le_refl _, by simp⟩
  | cons a L ih =>
    rw [List.foldl_cons]
    obtain ⟨h1, h2⟩ := ih (mxS all m a)
    have h3 : m ≤ mxS all m a ∧ (hitS all a = true → a.id ≤ mxS all m a) := by
      unfold mxS
      split
      · rename_i h; exact ⟨by omega, fun _ => Int.le_refl _⟩
      · rename_i h; exact ⟨Int.le_refl _, fun hh => by by_cases h4 : m < a.id; exact absurd ⟨h4, hh⟩ h; omega⟩
    refine ⟨by omega, fun s hs hh => ?_⟩
    rcases List.mem_cons.1 hs with rfl | hs
    · have := h3.2 hh; omega
    · exact h2 s hs hh
theorem HurtIs.mem {up : List Step} {L : List Slot} {id : Int} (h : HurtIs up L id) (h0 : id ≠ 0) : ∃ s ∈ L, s.id = id := by
  obtain ⟨ts, _, rfl⟩ := h
  rcases foldl_mxS (all := overL up L ts) (L := L) 0 with h | h
  · exact absurd h h0
  · exact h

theorem change_at {up : List Step} (hu : Valid up) (L : List Slot) : ∀ (n : Nat) (t : Int), t = n → ∃ x, x ∈ stepT up ++ slotT L ∧ 0 ≤ x ∧ x ≤ t ∧ loadOf L x = loadOf L t ∧ val up x = val up t := by
  intro n
  induction n with
  | zero =>
    rintro t rfl
    refine ⟨0, ?_, Int.le_refl _, Int.le_refl _, rfl, rfl⟩
    rw [List.mem_append]
    left
    have := hu.zero
    rw [← this]
    unfold stepT
    rw [List.mem_map]
    exact ⟨up[0]'hu.pos, List.getElem_mem hu.pos, by rw [stepAt up 0 hu.pos]⟩
  | succ n ih =>
    intro t ht
    by_cases hm : t ∈ stepT up ++ slotT L
    · exact ⟨t, hm, by omega, Int.le_refl _, rfl, rfl⟩
    · obtain ⟨x, h1, h2, h3, h4, h5⟩ := ih (t - 1) (by omega)
      rw [List.mem_append] at hm
      refine ⟨x, h1, h2, by omega, ?_, ?_⟩
      · rw [h4, load_const (t := t) fun h => hm (.inr h)]
      · rw [h5, ← hu.vf (by omega) 0, ← hu.vf (by omega) 0, vf_const (t := t) 0 fun h => hm (.inl h)]

theorem hitS_of {up : List Step} {L : List Slot} {ts : List Int} {x : Int} {s : Slot} (hx : x ∈ ts) (h1 : 0 < loadOf L x - atOf up x) (h2 : s.frm ≤ x) (h3 : x < s.to) : hitS (overL up L ts) s = true := by
  obtain ⟨i, hi, rfl⟩ := List.getElem_of_mem hx
  unfold hitS hitN
  rw [List.any_eq_true]
  refine ⟨i, by rw [List.mem_range]; simpa [overL] using hi, ?_⟩
  have ha : atv (overL up L ts) i = ts[i] := by simp [atv, overL, hi]
  have hf : frv (overL up L ts) i = loadOf L ts[i] - atOf up ts[i] := by simp [frv, overL, hi]
  rw [ha, hf]
  unfold hitX
  simp only [Bool.and_eq_true, decide_eq_true_eq]
  exact ⟨⟨h1, h2⟩, h3⟩
theorem load_pos {L : List Slot} {t : Int} (h : 0 < loadOf L t) : ∃ s ∈ L, s.frm ≤ t ∧ t < s.to := by
  induction L with
  | nil => simp [loadOf] at h
  | cons a L ih =>
    by_cases hc : a.frm ≤ t ∧ t < a.to
    · exact ⟨a, List.mem_cons_self, hc⟩
    · rw [loadOf_cons] at h
      have h0 : covS t a = 0 := by unfold covS; rw [if_neg hc]
      obtain ⟨s, hs, h2⟩ := ih (by omega)
      exact ⟨s, List.mem_cons_of_mem _ hs, h2⟩

/-- Nobody has to go: nothing is over. -/
theorem HurtIs.fits {n : Int} {up : List Step} {L : List Slot} (hu : Valid up) (hr : ∀ s ∈ L, rightOf n s = true) (h : HurtIs up L 0) : ∀ t, 0 ≤ t → loadOf L t ≤ val up t := by
  intro t ht
  rcases Int.lt_or_le (val up t) (loadOf L t) with hlt | hle
  · exfalso
    obtain ⟨ts, hts, hz⟩ := h
    obtain ⟨x, hx, hx0, hxt, e1, e2⟩ := change_at hu L t.toNat t (by omega)
    have hmax : x ≤ 1099511627775 := by
      rw [List.mem_append] at hx
      rcases hx with hx | hx
      · unfold stepT at hx
        rw [List.mem_map] at hx
        obtain ⟨s, hs, rfl⟩ := hx
        obtain ⟨i, hi, rfl⟩ := List.getElem_of_mem hs
        rw [stepAt up i hi]
        exact (hu.time i hi).2
      · unfold slotT at hx
        rw [List.mem_flatMap] at hx
        obtain ⟨s, hs, hx⟩ := hx
        have := right_iff.1 (hr s hs)
        simp at hx
        rcases hx with rfl | rfl <;> omega
    have hat := atOf_val hu hx0 hmax
    have hv := hu.val_range hx0
    obtain ⟨s, hs, h2, h3⟩ := load_pos (L := L) (t := x) (by omega)
    have hh := hitS_of (up := up) (L := L) ((hts x).2 hx) (by omega) h2 h3
    have := (foldl_mxS_ge (all := overL up L ts) (L := L) 0).2 s hs hh
    have h4 := right_iff.1 (hr s hs)
    unfold hurtOf at hz
    omega
  · exact hle

/-- Who has gone, one behind the other. -/
inductive Gone (up : List Step) (L0 : List Slot) : List Int → List Slot → Prop
  | nil : Gone up L0 [] L0
  | snoc {G : List Int} {L : List Slot} {s : Slot} : Gone up L0 G L → s ∈ L → HurtIs up L s.id → Gone up L0 (G ++ [s.id]) (without L s.id)

theorem Gone.sub {up : List Step} {L0 L : List Slot} {G : List Int} (h : Gone up L0 G L) : L.Sublist L0 := by
  induction h with
  | nil => exact List.Sublist.refl _
  | snoc _ _ _ ih => exact (without_sub _ _).trans ih
theorem Gone.ids {up : List Step} {L0 L : List Slot} {G : List Int} (h : Gone up L0 G L) : ∀ x ∈ L0, x ∈ L ∨ x.id ∈ G := by
  induction h with
  | nil => exact fun x hx => .inl hx
  | @snoc G L s _ hs _ ih =>
    intro x hx
    rcases ih x hx with h | h
    · by_cases he : x.id = s.id
      · exact .inr (by rw [he]; simp)
      · left
        unfold without
        rw [List.mem_filter]
        exact ⟨h, by simpa using he⟩
    · exact .inr (List.mem_append_left _ h)
theorem Gone.from {up : List Step} {L0 L : List Slot} {G : List Int} (h : Gone up L0 G L) : ∀ g ∈ G, ∃ s ∈ L0, s.id = g := by
  induction h with
  | nil => simp
  | @snoc G L s hg hs _ ih =>
    intro g hgm
    rw [List.mem_append] at hgm
    rcases hgm with h | h
    · exact ih g h
    · simp at h
      exact ⟨s, hg.sub.subset hs, h.symm⟩

theorem without_len {L : List Slot} (h : L.Pairwise fun a b => a.id ≠ b.id) {s : Slot} (hs : s ∈ L) : (without L s.id).length + 1 = L.length := by
  obtain ⟨j, hj, rfl⟩ := List.getElem_of_mem hs
  have := filter_erase h (List.getElem?_eq_getElem hj)
  unfold without
  rw [← this, List.length_eraseIdx]
  simp [hj]
  omega
theorem Gone.len {up : List Step} {L0 L : List Slot} {G : List Int} (h0 : L0.Pairwise fun a b => a.id ≠ b.id) (h : Gone up L0 G L) : G.length + L.length = L0.length := by
  induction h with
  | nil => simp
  | @snoc G L s hg hs _ ih =>
    have := without_len (h0.sublist hg.sub) hs
    simp
    omega

/-- sum: each Add finds room. -/
theorem sum_ok {up : List Step} (hu : Valid up) (hul : up.length ≤ 1000) {n : Int} (hn : n ≤ 10000) {L : List Slot} (hr : ∀ s ∈ L, rightOf n s = true) (hl : L.length ≤ 9000) (hf : ∀ t, 0 ≤ t → loadOf L t ≤ val up t) :
    ∀ (dn rest : List Slot), (dn ++ rest).Perm L → Valid (sumF up dn) ∧ ∀ t, 0 ≤ t → val (sumF up dn) t = val up t - loadOf dn t := by
  intro dn
  obtain ⟨m, hm⟩ : ∃ m, m = dn.length := ⟨_, rfl⟩
  induction m generalizing dn with
  | zero =>
    intro rest _
    obtain rfl := List.eq_nil_of_length_eq_zero hm.symm
    exact ⟨hu, fun t _ => by simp [sumF, loadOf]⟩
  | succ m ih =>
    intro rest hp
    have hpos : 0 < dn.length := by omega
    obtain ⟨d, s, rfl⟩ : ∃ d s, dn = d ++ [s] := ⟨dn.dropLast, dn.getLast (List.length_pos_iff.1 hpos), (List.dropLast_concat_getLast (List.length_pos_iff.1 hpos)).symm⟩
    have hp2 : (d ++ ([s] ++ rest)).Perm L := by rw [← List.append_assoc]; exact hp
    obtain ⟨hv, hval⟩ := ih d (by simp at hm; omega) _ hp2
    have hsL : s ∈ L := hp.subset (by simp)
    have hsr := right_iff.1 (hr s hsL)
    have hnn : ∀ x ∈ L, 1 ≤ x.nodes ∧ x.nodes ≤ 10000 := fun x hx => by have := right_iff.1 (hr x hx); omega
    have hdl : d.length ≤ 9000 := by have := hp.length_eq; simp at this; omega
    have hlen := len_bound hv hu hval
    have he : addErr (sumF up d) s.frm s.to (-s.nodes) = 0 := by
      rw [add_room hv hsr.2.1.1 hsr.2.2.2.1 hsr.2.2.1.2 ⟨by omega, by omega⟩ (by omega)]
      intro t h1 h2
      have h3 := hval t (by omega)
      have h4 := hf t (by omega)
      have h5 := loadOf_perm hp2 t
      rw [loadOf_append, List.singleton_append, loadOf_cons] at h5
      have h6 : covS t s = s.nodes := by unfold covS; rw [if_pos ⟨h1, h2⟩]
      have h7 := load_nonneg (L := rest) (fun x hx => hnn x (hp.subset (List.mem_append_right _ hx))) t
      have h8 := hv.val_range (t := t) (by omega)
      omega
    have hsn : sumF up (d ++ [s]) = addRes (sumF up d) s.frm s.to (-s.nodes) := by simp [sumF, List.foldl_append]
    obtain ⟨hv2, hval2⟩ := add_ok hv he
    rw [hsn]
    refine ⟨hv2, fun t ht => ?_⟩
    rw [hval2 t ht, hval t ht, loadOf_snoc]
    unfold covS
    by_cases hc : s.frm ≤ t ∧ t < s.to
    · rw [if_pos hc, if_pos hc]; omega
    · rw [if_neg hc, if_neg hc]; omega

/-- THE BOOK BEHIND OUT. -/
theorem Inv.out {n : Int} {up fr up2 : List Step} {L L2 dn : List Slot} {G : List Int} (h : Inv n up fr L) (hu : Valid up2) (hul : up2.length ≤ 1000) (hg : Gone up2 L G L2) (hz : HurtIs up2 L2 0) (hp : dn.Perm L2) : Inv n up2 (sumF up2 dn) L2 := by
  have hr : ∀ s ∈ L2, rightOf n s = true := fun s hs => h.rt s (hg.sub.subset hs)
  have hl : L2.length ≤ 9000 := Nat.le_trans hg.sub.length_le h.len
  obtain ⟨hv, hval⟩ := sum_ok hu hul h.n1.2 hr hl (hz.fits hu hr) dn [] (by simpa using hp)
  exact ⟨h.n1, hu, hul, hv, hr, h.ids.sublist hg.sub, hl, fun t ht => by rw [hval t ht, loadOf_perm hp]⟩

end Go.Proofs.Ytjknmnmilladlaa
