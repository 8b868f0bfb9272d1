/-
  Rows of numbers, and a book stored over a box that holds one: each row of numbers stays, and so does the program's book.
-/
import Derived.Test.YtjknmnmilladlaaR15
namespace Go.Proofs.Ytjknmnmilladlaa
open Go.RowKit

def Nums (xs : List Value) : Prop := ∀ u ∈ xs, ∃ a, u = .int .i64 a
theorem nums_S (l : List Step) : Nums (flatS l) := by
  intro u hu
  simp only [flatS, List.mem_flatMap] at hu
  obtain ⟨a, _, ha⟩ := hu
  simp [stepCells] at ha
  rcases ha with rfl | rfl <;> exact ⟨_, rfl⟩
theorem nums_L (l : List Slot) : Nums (flatL l) := by
  intro u hu
  simp only [flatL, List.mem_flatMap] at hu
  obtain ⟨a, _, ha⟩ := hu
  simp [slotCells] at ha
  rcases ha with rfl | rfl | rfl | rfl <;> exact ⟨_, rfl⟩
theorem nums_I (l : List Int) : Nums (flatI l) := by
  intro u hu
  simp only [flatI, List.mem_map] at hu
  obtain ⟨a, _, rfl⟩ := hu
  exact ⟨_, rfl⟩

theorem IsRow.setX {w : World} {k X : Nat} {v : Value} {m : Nat} {xs : List Value} {n : Int} {a1 a2 : Option Addr} {m1 m2 c1 c2 : Nat} {y z : Value} (h : IsRow w k v m xs) (hx : Nums xs) (r0 : w.cell? ⟨X, 0, none⟩ = some (.int .i64 n)) (r1 : w.cell? ⟨X, 1, none⟩ = some (.slice a1 m1 c1)) (r2 : w.cell? ⟨X, 2, none⟩ = some (.slice a2 m2 c2)) :
    IsRow (((w.setCell ⟨X, 0, none⟩ (.int .i64 n)).setCell ⟨X, 1, none⟩ y).setCell ⟨X, 2, none⟩ z) k v m xs := by
  obtain ⟨hl, ao, cap, rfl, h1, h2, h3⟩ := h
  refine ⟨hl, ao, cap, rfl, h1, h2, fun hn => ?_⟩
  obtain ⟨b, off, rfl, hr⟩ := h3 hn
  refine ⟨b, off, rfl, fun j u hj => ?_⟩
  have hc := hr j u hj
  obtain ⟨a, rfl⟩ := hx u (List.mem_of_getElem? hj)
  by_cases hb : b = X
  · subst hb
    generalize off + j = o at *
    match o, hc with
    | 0, hc =>
      rw [r0] at hc
      cases hc
      exact (Ytjknmnmilladlaa.set3 r0 r1 r2).1
    | 1, hc =>
      rw [r1] at hc
      cases hc
    | 2, hc =>
      rw [r2] at hc
      cases hc
    | o + 3, hc => exact (cell_set_other (.inr (by omega))).trans ((cell_set_other (.inr (by omega))).trans ((cell_set_other (.inr (by omega))).trans hc))
  · exact (set3_other hb).trans hc
theorem IsSteps.setX {w : World} {X : Nat} {v : Value} {l : List Step} {n : Int} {a1 a2 : Option Addr} {m1 m2 c1 c2 : Nat} {y z : Value} (h : IsSteps w v l) (r0 : w.cell? ⟨X, 0, none⟩ = some (.int .i64 n)) (r1 : w.cell? ⟨X, 1, none⟩ = some (.slice a1 m1 c1)) (r2 : w.cell? ⟨X, 2, none⟩ = some (.slice a2 m2 c2)) :
    IsSteps (((w.setCell ⟨X, 0, none⟩ (.int .i64 n)).setCell ⟨X, 1, none⟩ y).setCell ⟨X, 2, none⟩ z) v l := IsRow.setX h (nums_S l) r0 r1 r2
theorem IsSlots.setX {w : World} {X : Nat} {v : Value} {l : List Slot} {n : Int} {a1 a2 : Option Addr} {m1 m2 c1 c2 : Nat} {y z : Value} (h : IsSlots w v l) (r0 : w.cell? ⟨X, 0, none⟩ = some (.int .i64 n)) (r1 : w.cell? ⟨X, 1, none⟩ = some (.slice a1 m1 c1)) (r2 : w.cell? ⟨X, 2, none⟩ = some (.slice a2 m2 c2)) :
    IsSlots (((w.setCell ⟨X, 0, none⟩ (.int .i64 n)).setCell ⟨X, 1, none⟩ y).setCell ⟨X, 2, none⟩ z) v l := IsRow.setX h (nums_L l) r0 r1 r2
theorem IsInts.setX {w : World} {X : Nat} {v : Value} {l : List Int} {n : Int} {a1 a2 : Option Addr} {m1 m2 c1 c2 : Nat} {y z : Value} (h : IsInts w v l) (r0 : w.cell? ⟨X, 0, none⟩ = some (.int .i64 n)) (r1 : w.cell? ⟨X, 1, none⟩ = some (.slice a1 m1 c1)) (r2 : w.cell? ⟨X, 2, none⟩ = some (.slice a2 m2 c2)) :
    IsInts (((w.setCell ⟨X, 0, none⟩ (.int .i64 n)).setCell ⟨X, 1, none⟩ y).setCell ⟨X, 2, none⟩ z) v l := IsRow.setX h (nums_I l) r0 r1 r2

/-- The program's book stays, where another's is stored in its box. -/
theorem BookIs.setX {w : World} {bk bm X : Nat} {n nX : Int} {up fr : List Step} {L : List Slot} {a1 a2 : Option Addr} {m1 m2 c1 c2 : Nat} {y z : Value} (h : BookIs w bk bm n up fr L) (hne : bk ≠ X) (r0 : w.cell? ⟨X, 0, none⟩ = some (.int .i64 nX)) (r1 : w.cell? ⟨X, 1, none⟩ = some (.slice a1 m1 c1)) (r2 : w.cell? ⟨X, 2, none⟩ = some (.slice a2 m2 c2)) :
    BookIs (((w.setCell ⟨X, 0, none⟩ (.int .i64 nX)).setCell ⟨X, 1, none⟩ y).setCell ⟨X, 2, none⟩ z) bk bm n up fr L := by
  obtain ⟨vu, u1, u2, u3⟩ := h.c1
  obtain ⟨vf, f1, f2, f3⟩ := h.c2
  exact ⟨(set3_other hne).trans h.c0, ⟨vu, (set3_other hne).trans u1, u2.setX r0 r1 r2, u3⟩, ⟨vf, (set3_other hne).trans f1, f2.setX r0 r1 r2, f3⟩, (set3_other hne).trans h.c3, fun o => set3_frozen.trans (h.fz o), ((h.map.setCell _ _).setCell _ _).setCell _ _⟩

/-- Which slot is found, and whether the reference's book holds what was found. -/
theorem get_in {L S : List Slot} (hS : SortedOf L S) (hid : ∀ s ∈ L, 1 ≤ s.id) {s : Slot} (h : s ∈ L) : s ∈ S ∧ (∀ x ∈ L, 1 ≤ x.id) := ⟨hS.1.mem_iff.2 h, hid⟩
theorem zero_out {L S : List Slot} (hS : SortedOf L S) (hid : ∀ s ∈ L, 1 ≤ s.id) : (⟨0, 0, 0, 0⟩ : Slot) ∉ S := by
  intro h
  have := hid _ (hS.1.mem_iff.1 h)
  simp at this

end Go.Proofs.Ytjknmnmilladlaa
