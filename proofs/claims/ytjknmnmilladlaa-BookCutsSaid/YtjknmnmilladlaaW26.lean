/-
  The book in memory, behind writes to a row of the call's own; Sort with what it writes.
-/
import Derived.Test.YtjknmnmilladlaaW21
namespace Go.Proofs.Ytjknmnmilladlaa
open Go.RowKit Go.Sort Go.Proofs

/-- slices.Sort, with what it writes. -/
theorem sortIntsG {w : World} {B : Nat} {v : Value} {l : List Int} (h : OwnInts w B v l) (hlen : l.length < 4611686018427387904) :
    Calls Try.prog 48 #[v] w fun e w' => e = .returned (.tuple #[]) ∧ OwnInts w' B v (l.mergeSort fun x y => decide (x ≤ y)) ∧ w.grownBy w' v.ownBlock := by
  have hl : (l.mergeSort fun x y => decide (x ≤ y)).length = l.length := List.length_mergeSort l
  rcases h.2 with ⟨rfl, h0⟩ | ⟨g, cap, cur, rfl, hg, hb, h1, h2, h3, ht⟩
  · have hle : l = [] := List.length_eq_zero_iff.1 h0
    subst hle
    refine (Any.slices_Sort_int_none Try.lays189 none 0 w).mono ?_
    rintro e w' ⟨he, rfl⟩
    exact ⟨he, by rw [List.mergeSort_nil]; exact h, ⟨rfl, rfl, rfl, Nat.le_refl _, fun _ _ _ => rfl⟩⟩
  · have ht' : cur.toList.take l.length = l.map (Value.int .i64) := by simpa [flatI] using ht
    have hlt : g < w.heap.size := (Array.getElem?_eq_some_iff.1 hb).1
    refine (Any.slices_Sort_int Try.lays189 g 0 cap l w (holds_of_blockI hb ht') hlt hlen).mono ?_
    rintro e w' ⟨he, n, os, rfl⟩
    refine ⟨he, ?_, ?_⟩
    · have := ownsRow_sortedI (n := n) (os := os) hl hg hb h1 h2 h3
      unfold OwnInts
      rw [hl]
      exact this
    · have : (Value.slice (some ⟨g, 0, none⟩) l.length cap).ownBlock = some g := by simp [Value.ownBlock]
      rw [this]
      exact grownBy_sortedI _

theorem OwnInts.keptB {w w' : World} {bk bm B : Nat} {v : Value} {l : List Int} (h : OwnInts w B v l) (hK : Kept bk bm w w') (h1 : bk < B) (h2 : bm < B) : OwnInts w' B v l := by
  refine ⟨h.1, ?_⟩
  rcases h.2 with h' | ⟨g, cap, cur, hv, hb, hg, r⟩
  · exact .inl h'
  · exact .inr ⟨g, cap, cur, hv, hb, by rw [hK.block g (Array.getElem?_eq_some_iff.1 hg).1 (by omega) (by omega)]; exact hg, r⟩

/-- A row of the call's own was written (or laid anew): the book stays. -/
theorem IsRow.grownOwn {w w' : World} {k : Nat} {row : Option Nat} {v : Value} {n : Nat} {xs : List Value} (hk : 0 < k) (h : IsRow w k v n xs) (hg : w.grownBy w' row) (hA : ∀ g, row = some g → Apart g v) : IsRow w' k v n xs := by
  obtain ⟨hl, ao, cap, rfl, h1, h2, h3⟩ := h
  refine ⟨hl, ao, cap, rfl, h1, h2, fun hn => ?_⟩
  obtain ⟨b, off, rfl, hr⟩ := h3 hn
  have hx : xs ≠ [] := by
    intro e
    rw [e] at hl
    have : 0 < n * k := Nat.mul_pos hn hk
    simp at hl
    omega
  have hlt := hr.lt hx
  exact ⟨b, off, rfl, hr.same fun o => World.cell?_of_block (w := w) (hg.block b hlt (fun e => hA b e.symm _ _ _ rfl hn rfl))⟩
theorem BookIs.grownOwn {w w' : World} {bk bm : Nat} {row : Option Nat} {n : Int} {up fr : List Step} {L : List Slot} (h : BookIs w bk bm n up fr L) (hg : w.grownBy w' row) (h1 : row ≠ some bk) (h2 : row ≠ some bm) (hA : ∀ g, row = some g → AwayB w bk g) : BookIs w' bk bm n up fr L := by
  have hc : ∀ o, w'.cell? ⟨bk, o, none⟩ = w.cell? ⟨bk, o, none⟩ := fun o => World.cell?_of_block (w := w) (hg.block bk h.lt (Ne.symm h1))
  have hf : ∀ o, w'.frozen? ⟨bk, o, none⟩ = w.frozen? ⟨bk, o, none⟩ := fun o => World.frozen?_of_block (w := w) (hg.block bk h.lt (Ne.symm h1))
  obtain ⟨vu, u1, u2, u3⟩ := h.c1
  obtain ⟨vf, f1, f2, f3⟩ := h.c2
  exact ⟨(hc 0).trans h.c0, ⟨vu, (hc 1).trans u1, IsRow.grownOwn (by decide) u2 hg (fun g e => hA g e vu (.inl u1)), u3⟩, ⟨vf, (hc 2).trans f1, IsRow.grownOwn (by decide) f2 hg (fun g e => hA g e vf (.inr f1)), f3⟩, (hc 3).trans h.c3, fun o => (hf o).trans (h.fz o), h.map.of_block (hg.block bm h.map.lt (Ne.symm h2))⟩
theorem AwayB.grownOwn {w w' : World} {bk X : Nat} {row : Option Nat} (hA : AwayB w bk X) (hlt : bk < w.heap.size) (hg : w.grownBy w' row) (h1 : row ≠ some bk) : AwayB w' bk X := by
  have hc : ∀ o, w'.cell? ⟨bk, o, none⟩ = w.cell? ⟨bk, o, none⟩ := fun o => World.cell?_of_block (w := w) (hg.block bk hlt (Ne.symm h1))
  intro x hx
  rw [hc, hc] at hx
  exact hA x hx
theorem AwayB.turned {w w' : World} {bk bm X : Nat} (hA : AwayB w bk X) (hlt : bk < w.heap.size) (hne : bk ≠ bm) (ht : w.mapTurned w' bm) : AwayB w' bk X :=
  hA.grownOwn hlt ht.grown (fun e => hne (by cases e; rfl))
theorem Kept.grownOwn {bk bm : Nat} {a w w' : World} {row : Option Nat} (h : Kept bk bm a w) (hg : w.grownBy w' row) (hR : ∀ g, row = some g → a.heap.size ≤ g) : Kept bk bm a w' :=
  ⟨hg.os.trans h.os, hg.tape.trans h.tape, hg.output.trans h.output, Nat.le_trans h.size hg.size, fun k hk h1 h2 => (hg.block k (Nat.lt_of_lt_of_le hk h.size) (fun e => by have := hR k e.symm; omega)).trans (h.block k hk h1 h2)⟩
/-- The rows of a call's own from B on: not the book's blocks, which are older. -/
theorem own_far {w : World} {B bk bm : Nat} {v : Value} {l : List Int} (h : OwnInts w B v l) (h1 : bk < B) (h2 : bm < B) : v.ownBlock ≠ some bk ∧ v.ownBlock ≠ some bm ∧ ∀ g, v.ownBlock = some g → B ≤ g := by
  have hl := World.ownsRow.lt h
  refine ⟨fun e => ?_, fun e => ?_, fun g e => (hl g e).1⟩
  · have := (hl bk e).1; omega
  · have := (hl bm e).1; omega

end Go.Proofs.Ytjknmnmilladlaa
