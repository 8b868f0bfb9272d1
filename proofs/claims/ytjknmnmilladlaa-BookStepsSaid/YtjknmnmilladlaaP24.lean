/-
  The reference's book, boxed beside the program's; a slot looked for in both.
-/
import Derived.Test.YtjknmnmilladlaaP23
import Derived.Test.YtjknmnmilladlaaP21
namespace Go.Proofs.Ytjknmnmilladlaa
open Go.RowKit

/-- The reference's book lies in block X, its rows clear of the program's block bk. -/
structure Beside (w : World) (X bk : Nat) (n : Int) (vu vs : Value) (up : List Step) (S : List Slot) : Prop where
  c0 : w.cell? ⟨X, 0, none⟩ = some (.int .i64 n)
  c1 : w.cell? ⟨X, 1, none⟩ = some vu
  c2 : w.cell? ⟨X, 2, none⟩ = some vs
  fz : ∀ o, w.frozen? ⟨X, o, none⟩ = false
  u : IsSteps w vu up
  s : IsSlots w vs S
  no : ∀ m c, vs = .slice none m c → c = m
  au : Apart bk vu
  az : Apart bk vs

theorem Beside.lt {w : World} {X bk : Nat} {n : Int} {vu vs : Value} {up : List Step} {S : List Slot} (h : Beside w X bk n vu vs up S) : X < w.heap.size := World.block_lt_of_cell? w _ h.c0
theorem Beside.below {w w' : World} {X bk : Nat} {n : Int} {vu vs : Value} {up : List Step} {S : List Slot} (h : Beside w X bk n vu vs up S) (hB : Below w.heap.size w w') : Beside w' X bk n vu vs up S :=
  ⟨(hB.cell (p := ⟨X, 0, none⟩) h.lt).trans h.c0, (hB.cell (p := ⟨X, 1, none⟩) h.lt).trans h.c1, (hB.cell (p := ⟨X, 2, none⟩) h.lt).trans h.c2, fun o => (hB.frozen (p := ⟨X, o, none⟩) h.lt).trans (h.fz o), h.u.below hB, h.s.below hB, h.no, h.au, h.az⟩
theorem Beside.kept {w w' : World} {X bk bm : Nat} {n : Int} {vu vs : Value} {up : List Step} {S L : List Slot} (h : Beside w X bk n vu vs up S) (hK : Kept bk bm w w') (hm : MapIs w bm L) (h1 : X ≠ bk) (h2 : X ≠ bm) : Beside w' X bk n vu vs up S :=
  ⟨(hK.cell h.lt h1 h2).trans h.c0, (hK.cell h.lt h1 h2).trans h.c1, (hK.cell h.lt h1 h2).trans h.c2, fun o => (hK.frozen h.lt h1 h2).trans (h.fz o), h.u.keptB hK h.au hm, h.s.keptB hK h.az hm, h.no, h.au, h.az⟩
/-- Another book is stored over it. -/
theorem Beside.turn {w : World} {X bk : Nat} {n : Int} {vu vs vu2 vs2 : Value} {up up2 : List Step} {S S2 : List Slot} (h : Beside w X bk n vu vs up S) (hu : IsSteps w vu2 up2) (hs : IsSlots w vs2 S2) (hno : ∀ m c, vs2 = .slice none m c → c = m) (ha : Apart bk vu2) (hz : Apart bk vs2) :
    Beside (((w.setCell ⟨X, 0, none⟩ (.int .i64 n)).setCell ⟨X, 1, none⟩ vu2).setCell ⟨X, 2, none⟩ vs2) X bk n vu2 vs2 up2 S2 := by
  obtain ⟨c0, c1, c2, fz, u, s, no, au, az⟩ := h
  obtain ⟨a1, k1, rfl, _, _⟩ := u.shape
  obtain ⟨a2, k2, rfl, _, _⟩ := s.shape
  obtain ⟨s0, s1, s2⟩ := set3 (a := .int .i64 n) (b := vu2) (c := vs2) c0 c1 c2
  exact ⟨s0, s1, s2, fun o => set3_frozen.trans (fz o), hu.setX c0 c1 c2, hs.setX c0 c1 c2, hno, ha, hz⟩
theorem Beside.book {w : World} {X bk bm : Nat} {n nb : Int} {vu vs vu2 vs2 : Value} {up upb frb : List Step} {S L : List Slot} (h : Beside w X bk n vu vs up S) (hb : BookIs w bk bm nb upb frb L) (hX : X ≠ bk) : BookIs (((w.setCell ⟨X, 0, none⟩ (.int .i64 n)).setCell ⟨X, 1, none⟩ vu2).setCell ⟨X, 2, none⟩ vs2) bk bm nb upb frb L := by
  obtain ⟨c0, c1, c2, fz, u, s, no, au, az⟩ := h
  obtain ⟨a1, k1, rfl, _, _⟩ := u.shape
  obtain ⟨a2, k2, rfl, _, _⟩ := s.shape
  exact hb.setX hX.symm c0 c1 c2
theorem Beside.ints {w : World} {X bk : Nat} {n : Int} {vu vs vu2 vs2 v : Value} {up : List Step} {S : List Slot} {l : List Int} (h : Beside w X bk n vu vs up S) (hb : IsInts w v l) : IsInts (((w.setCell ⟨X, 0, none⟩ (.int .i64 n)).setCell ⟨X, 1, none⟩ vu2).setCell ⟨X, 2, none⟩ vs2) v l := by
  obtain ⟨c0, c1, c2, fz, u, s, no, au, az⟩ := h
  obtain ⟨a1, k1, rfl, _, _⟩ := u.shape
  obtain ⟨a2, k2, rfl, _, _⟩ := s.shape
  exact hb.setX c0 c1 c2

theorem slots_len {w : World} {a : Option Addr} {m c : Nat} {S : List Slot} (h : IsSlots w (.slice a m c) S) : m = S.length ∧ m ≤ c ∧ c ≤ 9223372036854775807 := by
  obtain ⟨a2, c2, he, h1, h2⟩ := h.shape
  injection he with e1 e2 e3
  subst e2
  subst e3
  exact ⟨rfl, h1, h2⟩

/-- SameInts at two rows of numbers that are the same one. -/
theorem intsSame {w : World} {v1 v2 : Value} {l m : List Int} (h1 : IsInts w v1 l) (h2 : IsInts w v2 m) (he : l = m) :
    Calls Try.prog 17 #[v1, v2] w fun e w' => e = .returned (.bool true) ∧ Below w.heap.size w w' := (sameInts h1 h2).mono fun _ _ ⟨a, b⟩ => ⟨by rw [a]; simp [he], b⟩

/-- The slot of that id, or the slot of zeros: it is told as there where the reference's row holds it. -/
theorem getAny {w : World} {bk bm : Nat} {n : Int} {up fr : List Step} {L S : List Slot} (h : BookIs w bk bm n up fr L) (hS : SortedOf L S) (hid : ∀ s ∈ L, 1 ≤ s.id) (id : Int) :
    Calls Try.prog 19 #[.pointer (some ⟨bk, 0, none⟩), .int .i64 id] w fun e w' => (∃ (s : Slot) (ok : Bool), e = .returned (.tuple #[slotV s, .bool ok]) ∧ ok = decide (s ∈ S)) ∧ Below w.heap.size w w' := by
  rcases any_id (L := L) (id := id) with ⟨s, hs, rfl⟩ | hno
  · refine (getYes h hs).mono ?_
    rintro e w' ⟨rfl, hb⟩
    have := hS.1.mem_iff.2 hs
    exact ⟨⟨s, true, rfl, by simp [this]⟩, hb⟩
  · refine (getNo h hno).mono ?_
    rintro e w' ⟨rfl, hb⟩
    have : (⟨0, 0, 0, 0⟩ : Slot) ∉ S := by
      intro hz
      have := hid _ (hS.1.mem_iff.1 hz)
      simp at this
    exact ⟨⟨_, false, rfl, by simp [this]⟩, hb⟩
theorem mem_takeS {S : List Slot} {j : Nat} (h : j < S.length) (x : Slot) : decide (x ∈ S.take (j + 1)) = (decide (x ∈ S.take j) || decide (S.getD j default = x)) := by
  rw [List.take_succ_eq_append_getElem h, List.getD_eq_getElem?_getD, List.getElem?_eq_getElem h]
  rw [Bool.eq_iff_iff]
  simp only [Option.getD_some, List.mem_append, List.mem_singleton, Bool.or_eq_true, decide_eq_true_eq]
  exact ⟨fun h => h.imp id Eq.symm, fun h => h.imp id Eq.symm⟩

end Go.Proofs.Ytjknmnmilladlaa
