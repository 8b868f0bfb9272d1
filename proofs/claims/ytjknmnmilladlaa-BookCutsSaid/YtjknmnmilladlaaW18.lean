/-
  The library's Sort and Compact at numbers, on slices of the call's own.
-/
import Derived.Test.YtjknmnmilladlaaShelf
import Derived.Test.YtjknmnmilladlaaW14
import Derived.Sort.OwnSortedInts
namespace Go.Proofs.Ytjknmnmilladlaa
open Go.RowKit Go.Sort Go.Proofs

/-- slices.Sort. -/
theorem sortInts {w : World} {B : Nat} {v : Value} {l : List Int} (h : OwnInts w B v l) (hB : B ≤ w.heap.size) (hlen : l.length < 4611686018427387904) :
    Calls Try.prog 48 #[v] w fun e w' => e = .returned (.tuple #[]) ∧ OwnInts w' B v (l.mergeSort fun x y => decide (x ≤ y)) ∧ Below B w w' := by
  have hl : (l.mergeSort fun x y => decide (x ≤ y)).length = l.length := List.length_mergeSort l
  rcases h.2 with ⟨rfl, h0⟩ | ⟨g, cap, cur, rfl, hg, hb, h1, h2, h3, ht⟩
  · have hle : l = [] := List.length_eq_zero_iff.1 h0
    subst hle
    refine (Any.slices_Sort_int_none Try.lays189 none 0 w).mono ?_
    rintro e w' ⟨he, rfl⟩
    exact ⟨he, by rw [List.mergeSort_nil]; exact h, Below.refl _ _⟩
  · have ht' : cur.toList.take l.length = l.map (Value.int .i64) := by simpa [flatI] using ht
    have hlt : g < w.heap.size := (Array.getElem?_eq_some_iff.1 hb).1
    refine (Any.slices_Sort_int Try.lays189 g 0 cap l w (holds_of_blockI hb ht') hlt hlen).mono ?_
    rintro e w' ⟨he, n, os, rfl⟩
    refine ⟨he, ?_, ?_⟩
    · have := ownsRow_sortedI (n := n) (os := os) hl hg hb h1 h2 h3
      unfold OwnInts
      rw [hl]
      exact this
    · exact (Below.refl B w).grown (grownBy_sortedI _) hB (fun k hk => by cases hk; exact hg)

theorem mem_compactUpTo {d : Array Int} {m : Nat} {x : Int} : x ∈ Lib.compactUpTo d m ↔ ∃ j, j < m ∧ d[j]! = x := by
  induction m generalizing x with
  | zero => simp [Lib.compactUpTo]
  | succ m ih =>
    rw [Lib.compactUpTo_succ, List.mem_append, ih]
    constructor
    · rintro (⟨j, hj, rfl⟩ | hx)
      · exact ⟨j, by omega, rfl⟩
      · split at hx
        · simp at hx
          exact ⟨m, by omega, hx.symm⟩
        · simp at hx
    · rintro ⟨j, hj, rfl⟩
      by_cases hjm : j < m
      · exact .inl ⟨j, hjm, rfl⟩
      · obtain rfl : j = m := by omega
        by_cases hk : Lib.keeps d j = true
        · right; rw [if_pos hk]; simp
        · left
          by_cases h0 : j = 0
          · subst h0; exact absurd (Lib.keeps_lt_one d 0 (by omega)) hk
          · have he : d[j]! = d[j - 1]! := by
              by_cases he : d[j]! = d[j - 1]!
              · exact he
              · exact absurd (Lib.keeps_pos he) hk
            exact ⟨j - 1, by omega, he.symm⟩
theorem mem_compact {l : List Int} {x : Int} : x ∈ Lib.compact l ↔ x ∈ l := by
  unfold Lib.compact
  rw [mem_compactUpTo]
  constructor
  · rintro ⟨j, hj, rfl⟩
    simp [hj]
  · intro hx
    obtain ⟨j, hj, rfl⟩ := List.getElem_of_mem hx
    exact ⟨j, hj, by simp [hj]⟩

/-- slices.Compact: the same numbers. -/
theorem compactInts {w : World} {B : Nat} {v : Value} {l : List Int} (h : OwnInts w B v l) (hB : B ≤ w.heap.size) :
    Calls Try.prog 64 #[v] w fun e w' => (∃ u, e = .returned u ∧ IsInts w' u (Lib.compact l)) ∧ Below B w w' := by
  rcases h.2 with ⟨rfl, h0⟩ | ⟨g, cap, cur, rfl, hg, hb, h1, h2, h3, ht⟩
  · have hle : l = [] := List.length_eq_zero_iff.1 h0
    subst hle
    refine (Any.slices_Compact_int_empty Try.laysNm220 none 0 w).mono ?_
    rintro e w' ⟨he, rfl⟩
    refine ⟨⟨_, he, ?_⟩, Below.refl _ _⟩
    exact h.is
  · have ht' : cur.toList.take l.length = l.map (Value.int .i64) := by simpa [flatI] using ht
    have hlt : g < w.heap.size := (Array.getElem?_eq_some_iff.1 hb).1
    have hH := holds_of_blockI hb ht'
    refine (Any.slices_Compact_int Try.laysNm220 g 0 cap l w hH (by unfold maxLen at h2; omega) h1).mono ?_
    rintro e w' ⟨he, n, rfl⟩
    have hle := Lib.compact_length_le l
    have hHa : Holds (Value.int .i64) (Sort.ahead w n) g 0 l.toArray := hH
    have hP := holds_putRow (Value.int .i64) (Sort.ahead w n) g 0 l.toArray (Lib.compact l ++ List.replicate (l.length - (Lib.compact l).length) 0).toArray hHa (by simp; omega)
    refine ⟨⟨_, he, ?_⟩, ?_⟩
    · refine ⟨length_flatI _, some ⟨g, 0, none⟩, cap, rfl, by omega, h2, fun _ => ⟨g, 0, rfl, fun j u hj => ?_⟩⟩
      have hjl : j < (Lib.compact l).length := by
        have := (List.getElem?_eq_some_iff.1 hj).1
        rw [length_flatI] at this
        omega
      have := (hP j (by simp; omega)).1
      rw [this]
      unfold flatI at hj
      rw [List.getElem?_map, List.getElem?_eq_getElem hjl] at hj
      simp at hj
      rw [← hj]
      have hj2 : j < (Lib.compact l ++ List.replicate (l.length - (Lib.compact l).length) 0).length := by simp; omega
      simp only [List.getElem!_toArray, List.getElem!_eq_getElem?_getD, List.getElem?_append_left hjl, List.getElem?_eq_getElem hjl, Option.getD_some]
    · refine (Below.refl B w).grown (row := some g) ⟨rfl, rfl, rfl, by simp, fun k hk hne => ?_⟩ hB (fun k hk => by cases hk; exact hg)
      have : g ≠ k := fun e => hne (by rw [e])
      simp [putRow, mapBlock, Sort.ahead, Array.getElem?_modify, this]

end Go.Proofs.Ytjknmnmilladlaa
