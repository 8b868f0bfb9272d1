/-
  The words in which all contracts of this seat are stated: steps and slots as plain structures, slices as they read in a world, and how a reading is carried from one world to a later one.
-/
import Derived.Test.YtjknmnmilladlaaRows
import Derived.WalkKit
import Derived.WalkSpells
import Derived.WalkLawsBesides
import Derived.Deep.QuietTactic
import Derived.Deep.LoopGhost
import Derived.BigQuiet
import Derived.Lib.Hide
namespace Go.Proofs.Ytjknmnmilladlaa
open Go.RowKit

/-- api.Step -/
structure Step where
  at_ : Int
  free : Int
  deriving DecidableEq, Inhabited

/-- api.Slot -/
structure Slot where
  id : Int
  frm : Int
  to : Int
  nodes : Int
  deriving DecidableEq, Inhabited

def i64 (n : Int) : Value := .int .i64 n

def stepCells (s : Step) : List Value := [.int .i64 s.at_, .int .i64 s.free]
def slotCells (s : Slot) : List Value := [.int .i64 s.id, .int .i64 s.frm, .int .i64 s.to, .int .i64 s.nodes]
def stepV (s : Step) : Value := .agg #[.int .i64 s.at_, .int .i64 s.free]
def slotV (s : Slot) : Value := .agg #[.int .i64 s.id, .int .i64 s.frm, .int .i64 s.to, .int .i64 s.nodes]
def flatS (l : List Step) : List Value := l.flatMap stepCells
def flatL (l : List Slot) : List Value := l.flatMap slotCells
def flatI (l : List Int) : List Value := l.map (Value.int .i64)

theorem length_flatS (l : List Step) : (flatS l).length = l.length * 2 := by
  induction l with
  | nil => rfl
  | cons a l ih => simp only [flatS, List.flatMap_cons, List.length_append] at *; rw [ih]; simp [stepCells]; omega
theorem length_flatL (l : List Slot) : (flatL l).length = l.length * 4 := by
  induction l with
  | nil => rfl
  | cons a l ih => simp only [flatL, List.flatMap_cons, List.length_append] at *; rw [ih]; simp [slotCells]; omega
theorem length_flatI (l : List Int) : (flatI l).length = l.length * 1 := by simp [flatI]

theorem flatS_append (a b : List Step) : flatS (a ++ b) = flatS a ++ flatS b := by simp [flatS]
theorem flatL_append (a b : List Slot) : flatL (a ++ b) = flatL a ++ flatL b := by simp [flatL]
theorem flatI_append (a b : List Int) : flatI (a ++ b) = flatI a ++ flatI b := by simp [flatI]
theorem flatS_nil : flatS [] = [] := rfl
theorem flatI_nil : flatI [] = [] := rfl
theorem flatL_nil : flatL [] = [] := rfl

/-- the i-th step's numbers -/
def atv (l : List Step) (i : Nat) : Int := (l.getD i default).at_
def frv (l : List Step) (i : Nat) : Int := (l.getD i default).free
def slv (l : List Slot) (i : Nat) : Slot := l.getD i default
def inv (l : List Int) (i : Nat) : Int := l.getD i 0

theorem flatS_at (l : List Step) (i : Nat) (h : i < l.length) : (flatS l)[i * 2]? = some (.int .i64 (atv l i)) := by
  induction l generalizing i with
  | nil => simp at h
  | cons a l ih =>
    cases i with
    | zero => simp [flatS, stepCells, atv]
    | succ i =>
      have := ih i (by simpa using h)
      simp only [flatS, List.flatMap_cons, atv] at *
      rw [List.getElem?_append_right (by simp [stepCells]; omega)]
      simp only [stepCells, List.length_cons, List.length_nil]
      rw [show (i + 1) * 2 - (0 + 1 + 1) = i * 2 by omega, this]
      simp
theorem flatS_fr (l : List Step) (i : Nat) (h : i < l.length) : (flatS l)[i * 2 + 1]? = some (.int .i64 (frv l i)) := by
  induction l generalizing i with
  | nil => simp at h
  | cons a l ih =>
    cases i with
    | zero => simp [flatS, stepCells, frv]
    | succ i =>
      have := ih i (by simpa using h)
      simp only [flatS, List.flatMap_cons, frv] at *
      rw [List.getElem?_append_right (by simp [stepCells]; omega)]
      simp only [stepCells, List.length_cons, List.length_nil]
      rw [show (i + 1) * 2 + 1 - (0 + 1 + 1) = i * 2 + 1 by omega, this]
      simp
theorem flatL_at (l : List Slot) (i j : Nat) (h : i < l.length) : (flatL l)[i * 4 + j]? = if j < 4 then (slotCells (slv l i))[j]? else (flatL l)[i * 4 + j]? := by
  split
  · rename_i hj
    induction l generalizing i with
    | nil => simp at h
    | cons a l ih =>
      cases i with
      | zero => simp only [flatL, List.flatMap_cons, slv]; rw [List.getElem?_append_left (by simp [slotCells]; omega)]; simp
      | succ i =>
        have := ih i (by simpa using h)
        simp only [flatL, List.flatMap_cons, slv] at *
        rw [List.getElem?_append_right (by simp [slotCells]; omega)]
        simp only [slotCells, List.length_cons, List.length_nil] at *
        rw [show (i + 1) * 4 + j - (0 + 1 + 1 + 1 + 1) = i * 4 + j by omega, this]
        simp
  · rfl
theorem flatI_at (l : List Int) (i : Nat) (h : i < l.length) : (flatI l)[i]? = some (.int .i64 (inv l i)) := by
  simp [flatI, inv, h]

theorem oneCell_flatS (l : List Step) : ∀ u ∈ flatS l, u.oneCell' = true := by
  intro u hu
  simp only [flatS, List.mem_flatMap] at hu
  obtain ⟨a, _, ha⟩ := hu
  simp [stepCells] at ha
  rcases ha with rfl | rfl <;> rfl
theorem oneCell_flatL (l : List Slot) : ∀ u ∈ flatL l, u.oneCell' = true := by
  intro u hu
  simp only [flatL, List.mem_flatMap] at hu
  obtain ⟨a, _, ha⟩ := hu
  simp [slotCells] at ha
  rcases ha with rfl | rfl | rfl | rfl <;> rfl
theorem oneCell_flatI (l : List Int) : ∀ u ∈ flatI l, u.oneCell' = true := by
  intro u hu
  simp only [flatI, List.mem_map] at hu
  obtain ⟨a, _, rfl⟩ := hu
  rfl

/-- The cells from an address on. -/
def RowAt (w : World) (b off : Nat) (xs : List Value) : Prop := ∀ j u, xs[j]? = some u → w.cell? ⟨b, off + j, none⟩ = some u

/-- The slice value v, of n elements of k cells each, reads as the cells xs. -/
def IsRow (w : World) (k : Nat) (v : Value) (n : Nat) (xs : List Value) : Prop :=
  xs.length = n * k ∧ ∃ ao cap, v = .slice ao n cap ∧ n ≤ cap ∧ cap ≤ maxLen ∧ (0 < n → ∃ b off, ao = some ⟨b, off, none⟩ ∧ RowAt w b off xs)

def IsSteps (w : World) (v : Value) (l : List Step) : Prop := IsRow w 2 v l.length (flatS l)
def IsSlots (w : World) (v : Value) (l : List Slot) : Prop := IsRow w 4 v l.length (flatL l)
def IsInts (w : World) (v : Value) (l : List Int) : Prop := IsRow w 1 v l.length (flatI l)

def OwnSteps (w : World) (B : Nat) (v : Value) (l : List Step) : Prop := w.ownsRow B 38 2 v l.length (flatS l)
def OwnSlots (w : World) (B : Nat) (v : Value) (l : List Slot) : Prop := w.ownsRow B 29 4 v l.length (flatL l)
def OwnInts (w : World) (B : Nat) (v : Value) (l : List Int) : Prop := w.ownsRow B 3 1 v l.length (flatI l)

theorem IsRow.of_owns {w : World} {B e k : Nat} {v : Value} {n : Nat} {xs : List Value} (h : w.ownsRow B e k v n xs) : IsRow w k v n xs := by
  refine ⟨h.1, ?_⟩
  rcases h.2 with ⟨rfl, rfl⟩ | ⟨g, cap, cur, rfl, hb, hg, hnc, hcm, hcs, ht⟩
  · exact ⟨none, 0, rfl, Nat.le_refl _, Nat.zero_le _, fun h => absurd h (Nat.lt_irrefl _)⟩
  · refine ⟨_, cap, rfl, hnc, hcm, fun _ => ⟨g, 0, rfl, fun j u hj => ?_⟩⟩
    have := h.cells (g := g) rfl j u hj
    rw [Addr.add_lit] at this
    exact this

theorem OwnSteps.is {w : World} {B : Nat} {v : Value} {l : List Step} (h : OwnSteps w B v l) : IsSteps w v l := IsRow.of_owns h
theorem OwnSlots.is {w : World} {B : Nat} {v : Value} {l : List Slot} (h : OwnSlots w B v l) : IsSlots w v l := IsRow.of_owns h
theorem OwnInts.is {w : World} {B : Nat} {v : Value} {l : List Int} (h : OwnInts w B v l) : IsInts w v l := IsRow.of_owns h

theorem RowAt.same {w w' : World} {b off : Nat} {xs : List Value} (h : RowAt w b off xs) (hb : ∀ o, w'.cell? ⟨b, o, none⟩ = w.cell? ⟨b, o, none⟩) : RowAt w' b off xs :=
  fun j u hj => (hb _).trans (h j u hj)

/-- What is read lies in blocks that are there. -/
theorem RowAt.lt {w : World} {b off : Nat} {xs : List Value} (h : RowAt w b off xs) (hx : xs ≠ []) : b < w.heap.size := by
  cases xs with
  | nil => exact absurd rfl hx
  | cons x xs => exact World.block_lt_of_cell? w _ (h 0 x rfl)

theorem RowAt.below {w w' : World} {B b off : Nat} {xs : List Value} (h : RowAt w b off xs) (hB : Below B w w') (hb : b < B) : RowAt w' b off xs :=
  h.same fun o => hB.cell (p := ⟨b, o, none⟩) hb

theorem IsRow.below {w w' : World} {k : Nat} {v : Value} {n : Nat} {xs : List Value} (hk : 0 < k) (h : IsRow w k v n xs) (hB : Below w.heap.size w w') : IsRow w' k v n xs := by
  obtain ⟨hl, ao, cap, rfl, h1, h2, h3⟩ := h
  refine ⟨hl, ao, cap, rfl, h1, h2, fun hn => ?_⟩
  obtain ⟨b, off, rfl, hr⟩ := h3 hn
  refine ⟨b, off, rfl, hr.below hB (hr.lt ?_)⟩
  intro e
  rw [e] at hl
  have : 0 < n * k := Nat.mul_pos hn hk
  simp at hl
  omega

theorem IsSteps.below {w w' : World} {v : Value} {l : List Step} (h : IsSteps w v l) (hB : Below w.heap.size w w') : IsSteps w' v l := IsRow.below (by decide) h hB
theorem IsSlots.below {w w' : World} {v : Value} {l : List Slot} (h : IsSlots w v l) (hB : Below w.heap.size w w') : IsSlots w' v l := IsRow.below (by decide) h hB
theorem IsInts.below {w w' : World} {v : Value} {l : List Int} (h : IsInts w v l) (hB : Below w.heap.size w w') : IsInts w' v l := IsRow.below (by decide) h hB

theorem OwnSteps.mono {w : World} {B B' : Nat} {v : Value} {l : List Step} (h : OwnSteps w B v l) (hB : B' ≤ B) : OwnSteps w B' v l := by
  refine ⟨h.1, ?_⟩
  rcases h.2 with h' | ⟨g, cap, cur, hv, hb, r⟩
  · exact .inl h'
  · exact .inr ⟨g, cap, cur, hv, Nat.le_trans hB hb, r⟩

theorem owns_below {w w' : World} {B e k : Nat} {v : Value} {n : Nat} {xs : List Value} (h : w.ownsRow B e k v n xs) (hB : Below w.heap.size w w') : w'.ownsRow B e k v n xs := by
  refine ⟨h.1, ?_⟩
  rcases h.2 with h' | ⟨g, cap, cur, hv, hb, hg, r⟩
  · exact .inl h'
  · exact .inr ⟨g, cap, cur, hv, hb, by rw [hB.block g (Array.getElem?_eq_some_iff.1 hg).1]; exact hg, r⟩

theorem below_drewN {B : Nat} {a w : World} (h : Below B a w) (n : Nat) : Below B a (w.drewN n) := ⟨h.os, h.tape, h.output, h.size, h.block⟩

/-- After a contract that ends in 'Below w.heap.size': old cells and marks read as before. -/
theorem bcell {w w1 : World} (hb : Below w.heap.size w w1) : (∀ b o, b < w.heap.size → w1.cell? ⟨b, o, none⟩ = w.cell? ⟨b, o, none⟩) ∧ (∀ b o, b < w.heap.size → w1.frozen? ⟨b, o, none⟩ = w.frozen? ⟨b, o, none⟩) :=
  ⟨fun b o h => hb.cell (p := ⟨b, o, none⟩) h, fun b o h => hb.frozen (p := ⟨b, o, none⟩) h⟩

theorem ret_int {k : IntKind} {a b : Int} (h : a = b) : Ending.returned (.int k a) = .returned (.int k b) := by rw [h]
theorem ret_bool {a b : Bool} (h : a = b) : Ending.returned (.bool a) = .returned (.bool b) := by rw [h]

/-- The cells of the steps, as a walk wants them. -/
theorem IsSteps.cells {w : World} {v : Value} {l : List Step} (h : IsSteps w v l) (hn : 0 < l.length) :
    ∃ b off cap, v = .slice (some ⟨b, off, none⟩) l.length cap ∧ l.length ≤ cap ∧ cap ≤ maxLen ∧ b < w.heap.size ∧ (∀ i, i < l.length → w.cell? ⟨b, off + i * 2, none⟩ = some (.int .i64 (atv l i))) ∧ (∀ i, i < l.length → w.cell? ⟨b, off + i * 2 + 1, none⟩ = some (.int .i64 (frv l i))) ∧ RowAt w b off (flatS l) := by
  obtain ⟨hl, ao, cap, rfl, h1, h2, h3⟩ := h
  obtain ⟨b, off, rfl, hr⟩ := h3 hn
  refine ⟨b, off, cap, rfl, h1, h2, hr.lt ?_, fun i hi => hr _ _ (flatS_at l i hi), fun i hi => ?_, hr⟩
  · intro e; rw [e] at hl; simp at hl; omega
  · exact hr _ _ (flatS_fr l i hi)
theorem IsInts.cells {w : World} {v : Value} {l : List Int} (h : IsInts w v l) (hn : 0 < l.length) :
    ∃ b off cap, v = .slice (some ⟨b, off, none⟩) l.length cap ∧ l.length ≤ cap ∧ cap ≤ maxLen ∧ b < w.heap.size ∧ (∀ i, i < l.length → w.cell? ⟨b, off + i, none⟩ = some (.int .i64 (inv l i))) ∧ RowAt w b off (flatI l) := by
  obtain ⟨hl, ao, cap, rfl, h1, h2, h3⟩ := h
  obtain ⟨b, off, rfl, hr⟩ := h3 hn
  refine ⟨b, off, cap, rfl, h1, h2, hr.lt ?_, fun i hi => hr _ _ (flatI_at l i hi), hr⟩
  intro e; rw [e] at hl; simp at hl; omega
theorem IsRow.len {w : World} {k : Nat} {v : Value} {n : Nat} {xs : List Value} (h : IsRow w k v n xs) : n ≤ 9223372036854775807 := by
  obtain ⟨_, ao, cap, _, h1, h2, _⟩ := h
  unfold maxLen at h2
  omega
theorem IsRow.shape {w : World} {k : Nat} {v : Value} {n : Nat} {xs : List Value} (h : IsRow w k v n xs) : ∃ ao cap, v = .slice ao n cap ∧ n ≤ cap ∧ cap ≤ 9223372036854775807 := by
  obtain ⟨_, ao, cap, h0, h1, h2, _⟩ := h
  unfold maxLen at h2
  exact ⟨ao, cap, h0, h1, by omega⟩

end Go.Proofs.Ytjknmnmilladlaa
