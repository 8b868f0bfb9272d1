/-
  Plain: who is the worst; numbers at their places. No program here.
-/
import Derived.Test.YtjknmnmilladlaaP21
namespace Go.Proofs.Ytjknmnmilladlaa
open Go.RowKit

theorem zero_step {up : List Step} (hu : Valid up) : (0 : Int) ∈ stepT up := by
  have := hu.zero
  rw [← this]
  unfold stepT
  rw [List.mem_map]
  exact ⟨up[0]'hu.pos, List.getElem_mem hu.pos, by rw [stepAt up 0 hu.pos]⟩

/-- Is the slot at a place hurt at one of these times? -/
def HitJ (up : List Step) (S : List Slot) (ts : List Int) (j : Nat) : Prop := ∃ i, i < ts.length ∧ atOf up (ts.getD i default) < loadOf S (ts.getD i default) ∧ (S.getD j default).frm ≤ ts.getD i default ∧ ts.getD i default < (S.getD j default).to

theorem hitJ_iff {up : List Step} {S : List Slot} {ts : List Int} (hu : Valid up) (hm : ∀ t, t ∈ ts ↔ t = 0 ∨ t ∈ stepT up ++ slotT S) (j : Nat) : HitJ up S ts j ↔ HitAt up S (S.getD j default) := by
  have hm2 : ∀ t, t ∈ ts ↔ t ∈ stepT up ++ slotT S := by
    intro t
    rw [hm t]
    constructor
    · rintro (rfl | h)
      · exact List.mem_append_left _ (zero_step hu)
      · exact h
    · exact .inr
  constructor
  · rintro ⟨i, hi, h1, h2, h3⟩
    refine ⟨ts.getD i default, (hm2 _).1 ?_, h1, h2, h3⟩
    rw [List.getD_eq_getElem?_getD, List.getElem?_eq_getElem hi]
    exact List.getElem_mem _
  · rintro ⟨t, ht, h1, h2, h3⟩
    obtain ⟨i, hi, rfl⟩ := List.getElem_of_mem ((hm2 t).2 ht)
    have he : ts.getD i default = ts[i] := by rw [List.getD_eq_getElem?_getD, List.getElem?_eq_getElem hi]; rfl
    exact ⟨i, hi, by rw [he]; exact h1, by rw [he]; exact h2, by rw [he]; exact h3⟩

/-- The worst of the first q. -/
def Worst (up : List Step) (S : List Slot) (ts : List Int) (q : Nat) (x : Int) : Prop := (x = -1 ∧ ∀ j, j < q → ¬ HitJ up S ts j) ∨ ∃ j : Nat, j < q ∧ x = j ∧ HitJ up S ts j ∧ ∀ j2, j < j2 → j2 < q → ¬ HitJ up S ts j2

theorem Worst.zero {up : List Step} {S : List Slot} {ts : List Int} : Worst up S ts 0 (-1) := .inl ⟨rfl, fun _ h => absurd h (by omega)⟩
theorem Worst.no {up : List Step} {S : List Slot} {ts : List Int} {q : Nat} {x : Int} (h : Worst up S ts q x) (hq : ¬ HitJ up S ts q) : Worst up S ts (q + 1) x := by
  rcases h with ⟨h1, h2⟩ | ⟨j, h1, h2, h3, h4⟩
  · refine .inl ⟨h1, fun j hj => ?_⟩
    by_cases he : j = q
    · rw [he]; exact hq
    · exact h2 j (by omega)
  · refine .inr ⟨j, by omega, h2, h3, fun j2 hj hj2 => ?_⟩
    by_cases he : j2 = q
    · rw [he]; exact hq
    · exact h4 j2 hj (by omega)
theorem Worst.yes {up : List Step} {S : List Slot} {ts : List Int} {q : Nat} (hq : HitJ up S ts q) : Worst up S ts (q + 1) q :=
  .inr ⟨q, by omega, rfl, hq, fun j2 h1 h2 => absurd h2 (by omega)⟩

theorem worst_hurt {n : Int} {up : List Step} {S : List Slot} {ts : List Int} {x : Int} (hf : Fine n up S) (hS : S.Pairwise fun a b => a.id < b.id) (hm : ∀ t, t ∈ ts ↔ t = 0 ∨ t ∈ stepT up ++ slotT S) (hr : ¬ RoomOf up S) (h : Worst up S ts S.length x) :
    ∃ j : Nat, x = j ∧ j < S.length ∧ HurtIs up S (S.getD j default).id := by
  have hsome : ∃ j : Nat, j < S.length ∧ HitJ up S ts j := by
    unfold RoomOf at hr
    simp only [Classical.not_forall] at hr
    obtain ⟨t, ht, h1⟩ := hr
    have h2 := atOf_range hf.u t
    obtain ⟨s, hs, h3, h4⟩ := load_pos (L := S) (t := t) (by omega)
    have ht2 : t ∈ stepT up ++ slotT S := by
      rcases List.mem_cons.1 ht with rfl | h
      · exact List.mem_append_left _ (zero_step hf.u)
      · exact h
    obtain ⟨j, hj, rfl⟩ := List.getElem_of_mem hs
    have he : S.getD j default = S[j] := by rw [List.getD_eq_getElem?_getD, List.getElem?_eq_getElem hj]; rfl
    exact ⟨j, hj, (hitJ_iff hf.u hm j).2 ⟨t, ht2, by omega, by rw [he]; exact h3, by rw [he]; exact h4⟩⟩
  rcases h with ⟨_, h2⟩ | ⟨j, h1, h2, h3, h4⟩
  · obtain ⟨j, hj, hh⟩ := hsome
    exact absurd hh (h2 j hj)
  · refine ⟨j, h2, h1, hurt_iff.2 ⟨?_, ?_, ?_⟩⟩
    · have hjm : S.getD j default ∈ S := by rw [List.getD_eq_getElem?_getD, List.getElem?_eq_getElem h1]; exact List.getElem_mem _
      have := right_iff.1 (hf.r _ hjm)
      omega
    · intro s hs hh
      obtain ⟨i, hi, rfl⟩ := List.getElem_of_mem hs
      have he : S.getD i default = S[i] := by rw [List.getD_eq_getElem?_getD, List.getElem?_eq_getElem hi]; rfl
      have he2 : S.getD j default = S[j] := by rw [List.getD_eq_getElem?_getD, List.getElem?_eq_getElem h1]; rfl
      rw [he2]
      rcases Nat.lt_trichotomy i j with h5 | h5 | h5
      · have := (List.pairwise_iff_getElem.1 hS) i j hi h1 h5
        omega
      · subst h5; exact Int.le_refl _
      · exact absurd ((hitJ_iff hf.u hm i).2 (by rw [he]; exact hh)) (h4 i h5 hi)
    · refine .inr ⟨S.getD j default, ?_, (hitJ_iff hf.u hm j).1 h3, rfl⟩
      rw [List.getD_eq_getElem?_getD, List.getElem?_eq_getElem h1]
      exact List.getElem_mem _

theorem insI {g : List Int} {x : Int} {k : Nat} (h1 : ∀ j, j < k → g.getD j default < x) (h2 : k < g.length → x ≤ g.getD k default) (hs : g.Pairwise (· ≤ ·)) : (g.take k ++ [x] ++ g.drop k).Perm (g ++ [x]) ∧ (g.take k ++ [x] ++ g.drop k).Pairwise (· ≤ ·) := by
  constructor
  · rw [List.append_assoc]
    refine (List.perm_append_comm_assoc _ _ _).trans ?_
    rw [List.take_append_drop]
    exact List.perm_append_comm
  · have hp := hs
    rw [← List.take_append_drop k g, List.pairwise_append] at hp
    have ht : ∀ a ∈ g.take k, a < x := by
      intro a ha
      obtain ⟨j, hj, rfl⟩ := List.getElem_of_mem ha
      have hj2 : j < k ∧ j < g.length := by rw [List.length_take] at hj; omega
      have := h1 j hj2.1
      rw [List.getD_eq_getElem?_getD, List.getElem?_eq_getElem hj2.2] at this
      rw [List.getElem_take]
      exact this
    have hd : ∀ a ∈ g.drop k, x ≤ a := by
      intro a ha
      obtain ⟨j, hj, rfl⟩ := List.getElem_of_mem ha
      have hj2 : k + j < g.length := by rw [List.length_drop] at hj; omega
      have h3 := h2 (by omega)
      rw [List.getD_eq_getElem?_getD, List.getElem?_eq_getElem (by omega)] at h3
      rw [List.getElem_drop]
      rcases Nat.eq_zero_or_pos j with rfl | hj0
      · exact h3
      · have := (List.pairwise_iff_getElem.1 hs) k (k + j) (by omega) hj2 (by omega)
        simp only [Option.getD_some] at h3
        omega
    rw [List.pairwise_append, List.pairwise_append]
    refine ⟨⟨hp.1, by simp, ?_⟩, hp.2.1, ?_⟩
    · intro a ha b hb
      simp at hb
      subst hb
      have := ht a ha
      omega
    · intro a ha b hb
      rw [List.mem_append] at ha
      rcases ha with ha | ha
      · exact hp.2.2 a ha b hb
      · simp at ha
        subst ha
        exact hd b hb

theorem drop_newsI {w : World} {b off n c : Nat} {g : List Int} (h : IsInts w (.slice (some ⟨b, off, none⟩) n c) g) {q : Nat} (hq : q < g.length) : ∀ j u, (flatI (g.drop q))[j]? = some u → w.cell? ((⟨b, off + q, none⟩ : Addr).add j) = some u := by
  intro j u hj
  obtain ⟨_, ao, cap, e, _, _, h3⟩ := h
  obtain ⟨b', off', e2, hc⟩ := h3 (by omega)
  injection e with e3
  rw [e2] at e3
  injection e3 with e4
  injection e4 with e5 e6
  subst e5
  subst e6
  have := hc (q + j) u (by
    conv => lhs; rw [← List.take_append_drop q g, flatI_append]
    have hl : (flatI (g.take q)).length = q := by rw [length_flatI, List.length_take]; omega
    rw [List.getElem?_append_right (by omega), hl, Nat.add_sub_cancel_left]
    exact hj)
  rw [Addr.add_lit, show off + q + j = off + (q + j) by omega]
  exact this
theorem own_insI {w : World} {B m : Nat} {v : Value} {a b : List Int} {x : Int} (h : w.ownsRow B 3 1 v m (flatI a ++ [.int .i64 x] ++ flatI b)) : OwnInts w B v (a ++ [x] ++ b) := by
  have hm : m = (a ++ [x] ++ b).length := by
    have := h.1
    simp [length_flatI] at this
    simp
    omega
  subst hm
  unfold OwnInts
  rw [flatI_append, flatI_append]
  exact h
theorem OwnInts.no {w : World} {B : Nat} {v : Value} {l : List Int} (h : OwnInts w B v l) : ∀ m c, v = .slice none m c → c = m := by
  intro m c e
  rcases h.2 with ⟨h1, _⟩ | ⟨g, cap, cur, hv, _⟩
  · rw [h1] at e
    injection e with _ e2 e3
    omega
  · rw [hv] at e
    injection e with e1
    exact absurd e1 (by simp)

end Go.Proofs.Ytjknmnmilladlaa
