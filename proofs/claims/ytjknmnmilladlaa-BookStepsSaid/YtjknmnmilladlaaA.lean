import Derived.Test.YtjknmnmilladlaaRows
import Derived.WalkKit
import Derived.WalkSpells
import Derived.WalkLawsBesides
import Derived.Deep.QuietTactic
import Derived.Deep.LoopGhost
import Derived.BigQuiet
import Derived.Lib.Hide
import Derived.Deep.RegionHeld3
import Derived.Deep.AppendLies
import Derived.Lib.SliceRun

/-
  The words in which all contracts of this seat are stated: steps and slots as plain structures, slices as they read in a world, and how a reading is carried from one world to a later one.
-/
namespace Go.Proofs.Ytjknmnmilladlaa
open Go.RowKit

/-- api.Step -/
structure Step where
  at_ : Int
  free : Int
  deriving DecidableEq, Inhabited

/-- api.Slot -/
structure Slot where
  id : Int
  frm : Int
  to : Int
  nodes : Int
  deriving DecidableEq, Inhabited

def i64 (n : Int) : Value := .int .i64 n

def stepCells (s : Step) : List Value := [.int .i64 s.at_, .int .i64 s.free]
def slotCells (s : Slot) : List Value := [.int .i64 s.id, .int .i64 s.frm, .int .i64 s.to, .int .i64 s.nodes]
def stepV (s : Step) : Value := .agg #[.int .i64 s.at_, .int .i64 s.free]
def slotV (s : Slot) : Value := .agg #[.int .i64 s.id, .int .i64 s.frm, .int .i64 s.to, .int .i64 s.nodes]
def flatS (l : List Step) : List Value := l.flatMap stepCells
def flatL (l : List Slot) : List Value := l.flatMap slotCells
def flatI (l : List Int) : List Value := l.map (Value.int .i64)

theorem length_flatS (l : List Step) : (flatS l).length = l.length * 2 := by
  induction l with
  | nil => rfl
  | cons a l ih => simp only [flatS, List.flatMap_cons, List.length_append] at *; rw [ih]; simp [stepCells]; omega
theorem length_flatL (l : List Slot) : (flatL l).length = l.length * 4 := by
  induction l with
  | nil => rfl
  | cons a l ih => simp only [flatL, List.flatMap_cons, List.length_append] at *; rw [ih]; simp [slotCells]; omega
theorem length_flatI (l : List Int) : (flatI l).length = l.length * 1 := by simp [flatI]

theorem flatS_append (a b : List Step) : flatS (a ++ b) = flatS a ++ flatS b := by simp [flatS]
theorem flatL_append (a b : List Slot) : flatL (a ++ b) = flatL a ++ flatL b := by simp [flatL]
theorem flatI_append (a b : List Int) : flatI (a ++ b) = flatI a ++ flatI b := by simp [flatI]
theorem flatS_nil : flatS [] = [] := rfl
theorem flatI_nil : flatI [] = [] := rfl
theorem flatL_nil : flatL [] = [] := rfl

/-- the i-th step's numbers -/
def atv (l : List Step) (i : Nat) : Int := (l.getD i default).at_
def frv (l : List Step) (i : Nat) : Int := (l.getD i default).free
def slv (l : List Slot) (i : Nat) : Slot := l.getD i default
def inv (l : List Int) (i : Nat) : Int := l.getD i 0

theorem flatS_at (l : List Step) (i : Nat) (h : i < l.length) : (flatS l)[i * 2]? = some (.int .i64 (atv l i)) := by
  induction l generalizing i with
  | nil => simp at h
  | cons a l ih =>
    cases i with
    | zero => simp [flatS, stepCells, atv]
    | succ i =>
      have := ih i (by simpa using h)
      simp only [flatS, List.flatMap_cons, atv] at *
      rw [List.getElem?_append_right (by simp [stepCells]; omega)]
      simp only [stepCells, List.length_cons, List.length_nil]
      rw [show (i + 1) * 2 - (0 + 1 + 1) = i * 2 by omega, this]
      simp
theorem flatS_fr (l : List Step) (i : Nat) (h : i < l.length) : (flatS l)[i * 2 + 1]? = some (.int .i64 (frv l i)) := by
  induction l generalizing i with
  | nil => simp at h
  | cons a l ih =>
    cases i with
    | zero => simp [flatS, stepCells, frv]
    | succ i =>
      have := ih i (by simpa using h)
      simp only [flatS, List.flatMap_cons, frv] at *
      rw [List.getElem?_append_right (by simp [stepCells]; omega)]
      simp only [stepCells, List.length_cons, List.length_nil]
      rw [show (i + 1) * 2 + 1 - (0 + 1 + 1) = i * 2 + 1 by omega, this]
      simp
theorem flatL_at (l : List Slot) (i j : Nat) (h : i < l.length) : (flatL l)[i * 4 + j]? = if j < 4 then (slotCells (slv l i))[j]? else (flatL l)[i * 4 + j]? := by
  split
  · rename_i hj
    induction l generalizing i with
    | nil => simp at h
    | cons a l ih =>
      cases i with
      | zero => simp only [flatL, List.flatMap_cons, slv]; rw [List.getElem?_append_left (by simp [slotCells]; omega)]; simp
      | succ i =>
        have := ih i (by simpa using h)
        simp only [flatL, List.flatMap_cons, slv] at *
        rw [List.getElem?_append_right (by simp [slotCells]; omega)]
        simp only [slotCells, List.length_cons, List.length_nil] at *
        rw [show (i + 1) * 4 + j - (0 + 1 + 1 + 1 + 1) = i * 4 + j by omega, this]
        simp
  · rfl
theorem flatI_at (l : List Int) (i : Nat) (h : i < l.length) : (flatI l)[i]? = some (.int .i64 (inv l i)) := by
  simp [flatI, inv, h]

theorem oneCell_flatS (l : List Step) : ∀ u ∈ flatS l, u.oneCell' = true := by
  intro u hu
  simp only [flatS, List.mem_flatMap] at hu
  obtain ⟨a, _, ha⟩ := hu
  simp [stepCells] at ha
  rcases ha with rfl | rfl <;> rfl
theorem oneCell_flatL (l : List Slot) : ∀ u ∈ flatL l, u.oneCell' = true := by
  intro u hu
  simp only [flatL, List.mem_flatMap] at hu
  obtain ⟨a, _, ha⟩ := hu
  simp [slotCells] at ha
  rcases ha with rfl | rfl | rfl | rfl <;> rfl
theorem oneCell_flatI (l : List Int) : ∀ u ∈ flatI l, u.oneCell' = true := by
  intro u hu
  simp only [flatI, List.mem_map] at hu
  obtain ⟨a, _, rfl⟩ := hu
  rfl

/-- The cells from an address on. -/
def RowAt (w : World) (b off : Nat) (xs : List Value) : Prop := ∀ j u, xs[j]? = some u → w.cell? ⟨b, off + j, none⟩ = some u

/-- The slice value v, of n elements of k cells each, reads as the cells xs. -/
def IsRow (w : World) (k : Nat) (v : Value) (n : Nat) (xs : List Value) : Prop :=
  xs.length = n * k ∧ ∃ ao cap, v = .slice ao n cap ∧ n ≤ cap ∧ cap ≤ maxLen ∧ (0 < n → ∃ b off, ao = some ⟨b, off, none⟩ ∧ RowAt w b off xs)

def IsSteps (w : World) (v : Value) (l : List Step) : Prop := IsRow w 2 v l.length (flatS l)
def IsSlots (w : World) (v : Value) (l : List Slot) : Prop := IsRow w 4 v l.length (flatL l)
def IsInts (w : World) (v : Value) (l : List Int) : Prop := IsRow w 1 v l.length (flatI l)

def OwnSteps (w : World) (B : Nat) (v : Value) (l : List Step) : Prop := w.ownsRow B 38 2 v l.length (flatS l)
def OwnSlots (w : World) (B : Nat) (v : Value) (l : List Slot) : Prop := w.ownsRow B 29 4 v l.length (flatL l)
def OwnInts (w : World) (B : Nat) (v : Value) (l : List Int) : Prop := w.ownsRow B 3 1 v l.length (flatI l)

theorem IsRow.of_owns {w : World} {B e k : Nat} {v : Value} {n : Nat} {xs : List Value} (h : w.ownsRow B e k v n xs) : IsRow w k v n xs := by
  refine ⟨h.1, ?_⟩
  rcases h.2 with ⟨rfl, rfl⟩ | ⟨g, cap, cur, rfl, hb, hg, hnc, hcm, hcs, ht⟩
  · exact ⟨none, 0, rfl, Nat.le_refl _, Nat.zero_le _, fun h => absurd h (Nat.lt_irrefl _)⟩
  · refine ⟨_, cap, rfl, hnc, hcm, fun _ => ⟨g, 0, rfl, fun j u hj => ?_⟩⟩
    have := h.cells (g := g) rfl j u hj
    rw [Addr.add_lit] at this
    exact this

theorem OwnSteps.is {w : World} {B : Nat} {v : Value} {l : List Step} (h : OwnSteps w B v l) : IsSteps w v l := IsRow.of_owns h
theorem OwnSlots.is {w : World} {B : Nat} {v : Value} {l : List Slot} (h : OwnSlots w B v l) : IsSlots w v l := IsRow.of_owns h
theorem OwnInts.is {w : World} {B : Nat} {v : Value} {l : List Int} (h : OwnInts w B v l) : IsInts w v l := IsRow.of_owns h

theorem RowAt.same {w w' : World} {b off : Nat} {xs : List Value} (h : RowAt w b off xs) (hb : ∀ o, w'.cell? ⟨b, o, none⟩ = w.cell? ⟨b, o, none⟩) : RowAt w' b off xs :=
  fun j u hj => (hb _).trans (h j u hj)

/-- What is read lies in blocks that are there. -/
theorem RowAt.lt {w : World} {b off : Nat} {xs : List Value} (h : RowAt w b off xs) (hx : xs ≠ []) : b < w.heap.size := by
  cases xs with
  | nil => exact absurd rfl hx
  | cons x xs => exact World.block_lt_of_cell? w _ (h 0 x rfl)

theorem RowAt.below {w w' : World} {B b off : Nat} {xs : List Value} (h : RowAt w b off xs) (hB : Below B w w') (hb : b < B) : RowAt w' b off xs :=
  h.same fun o => hB.cell (p := ⟨b, o, none⟩) hb

theorem IsRow.below {w w' : World} {k : Nat} {v : Value} {n : Nat} {xs : List Value} (hk : 0 < k) (h : IsRow w k v n xs) (hB : Below w.heap.size w w') : IsRow w' k v n xs := by
  obtain ⟨hl, ao, cap, rfl, h1, h2, h3⟩ := h
  refine ⟨hl, ao, cap, rfl, h1, h2, fun hn => ?_⟩
  obtain ⟨b, off, rfl, hr⟩ := h3 hn
  refine ⟨b, off, rfl, hr.below hB (hr.lt ?_)⟩
  intro e
  rw [e] at hl
  have : 0 < n * k := Nat.mul_pos hn hk
  simp at hl
  omega

theorem IsSteps.below {w w' : World} {v : Value} {l : List Step} (h : IsSteps w v l) (hB : Below w.heap.size w w') : IsSteps w' v l := IsRow.below (by decide) h hB
theorem IsSlots.below {w w' : World} {v : Value} {l : List Slot} (h : IsSlots w v l) (hB : Below w.heap.size w w') : IsSlots w' v l := IsRow.below (by decide) h hB
theorem IsInts.below {w w' : World} {v : Value} {l : List Int} (h : IsInts w v l) (hB : Below w.heap.size w w') : IsInts w' v l := IsRow.below (by decide) h hB

theorem OwnSteps.mono {w : World} {B B' : Nat} {v : Value} {l : List Step} (h : OwnSteps w B v l) (hB : B' ≤ B) : OwnSteps w B' v l := by
  refine ⟨h.1, ?_⟩
  rcases h.2 with h' | ⟨g, cap, cur, hv, hb, r⟩
  · exact .inl h'
  · exact .inr ⟨g, cap, cur, hv, Nat.le_trans hB hb, r⟩

theorem owns_below {w w' : World} {B e k : Nat} {v : Value} {n : Nat} {xs : List Value} (h : w.ownsRow B e k v n xs) (hB : Below w.heap.size w w') : w'.ownsRow B e k v n xs := by
  refine ⟨h.1, ?_⟩
  rcases h.2 with h' | ⟨g, cap, cur, hv, hb, hg, r⟩
  · exact .inl h'
  · exact .inr ⟨g, cap, cur, hv, hb, by rw [hB.block g (Array.getElem?_eq_some_iff.1 hg).1]; exact hg, r⟩

theorem below_drewN {B : Nat} {a w : World} (h : Below B a w) (n : Nat) : Below B a (w.drewN n) := ⟨h.os, h.tape, h.output, h.size, h.block⟩

/-- After a contract that ends in 'Below w.heap.size': old cells and marks read as before. -/
theorem bcell {w w1 : World} (hb : Below w.heap.size w w1) : (∀ b o, b < w.heap.size → w1.cell? ⟨b, o, none⟩ = w.cell? ⟨b, o, none⟩) ∧ (∀ b o, b < w.heap.size → w1.frozen? ⟨b, o, none⟩ = w.frozen? ⟨b, o, none⟩) :=
  ⟨fun b o h => hb.cell (p := ⟨b, o, none⟩) h, fun b o h => hb.frozen (p := ⟨b, o, none⟩) h⟩

theorem ret_int {k : IntKind} {a b : Int} (h : a = b) : Ending.returned (.int k a) = .returned (.int k b) := by rw [h]
theorem ret_bool {a b : Bool} (h : a = b) : Ending.returned (.bool a) = .returned (.bool b) := by rw [h]

/-- The cells of the steps, as a walk wants them. -/
theorem IsSteps.cells {w : World} {v : Value} {l : List Step} (h : IsSteps w v l) (hn : 0 < l.length) :
    ∃ b off cap, v = .slice (some ⟨b, off, none⟩) l.length cap ∧ l.length ≤ cap ∧ cap ≤ maxLen ∧ b < w.heap.size ∧ (∀ i, i < l.length → w.cell? ⟨b, off + i * 2, none⟩ = some (.int .i64 (atv l i))) ∧ (∀ i, i < l.length → w.cell? ⟨b, off + i * 2 + 1, none⟩ = some (.int .i64 (frv l i))) ∧ RowAt w b off (flatS l) := by
  obtain ⟨hl, ao, cap, rfl, h1, h2, h3⟩ := h
  obtain ⟨b, off, rfl, hr⟩ := h3 hn
  refine ⟨b, off, cap, rfl, h1, h2, hr.lt ?_, fun i hi => hr _ _ (flatS_at l i hi), fun i hi => ?_, hr⟩
  · intro e; rw [e] at hl; simp at hl; omega
  · exact hr _ _ (flatS_fr l i hi)
theorem IsInts.cells {w : World} {v : Value} {l : List Int} (h : IsInts w v l) (hn : 0 < l.length) :
    ∃ b off cap, v = .slice (some ⟨b, off, none⟩) l.length cap ∧ l.length ≤ cap ∧ cap ≤ maxLen ∧ b < w.heap.size ∧ (∀ i, i < l.length → w.cell? ⟨b, off + i, none⟩ = some (.int .i64 (inv l i))) ∧ RowAt w b off (flatI l) := by
  obtain ⟨hl, ao, cap, rfl, h1, h2, h3⟩ := h
  obtain ⟨b, off, rfl, hr⟩ := h3 hn
  refine ⟨b, off, cap, rfl, h1, h2, hr.lt ?_, fun i hi => hr _ _ (flatI_at l i hi), hr⟩
  intro e; rw [e] at hl; simp at hl; omega
theorem IsRow.len {w : World} {k : Nat} {v : Value} {n : Nat} {xs : List Value} (h : IsRow w k v n xs) : n ≤ 9223372036854775807 := by
  obtain ⟨_, ao, cap, _, h1, h2, _⟩ := h
  unfold maxLen at h2
  omega
theorem IsRow.shape {w : World} {k : Nat} {v : Value} {n : Nat} {xs : List Value} (h : IsRow w k v n xs) : ∃ ao cap, v = .slice ao n cap ∧ n ≤ cap ∧ cap ≤ 9223372036854775807 := by
  obtain ⟨_, ao, cap, h0, h1, h2, _⟩ := h
  unfold maxLen at h2
  exact ⟨ao, cap, h0, h1, by omega⟩

end Go.Proofs.Ytjknmnmilladlaa

/-
  Walks: clock.Is and steps.Check: what they return, for every reading of their arguments.
-/
namespace Go.Proofs.Ytjknmnmilladlaa
open Go.RowKit

def isT (t : Int) : Bool := decide (0 ≤ t ∧ t ≤ 1099511627775)

set_option maxHeartbeats 400000 in
theorem clockIs (t : Int) (w : World) :
    Calls Try.prog 40 #[.int .i64 t] w fun e w' => e = .returned (.bool (isT t)) ∧ w' = w := by
  by_cases h0 : 0 ≤ t
  · go_enter Try.func40, Try.ntmps40
    go_wp2
    all_goals (go_ret; exact ⟨ret_bool (by simp [isT]; omega), rfl⟩)
  · go_enter Try.func40, Try.ntmps40
    go_wp2
    go_ret
    exact ⟨ret_bool (by simp [isT]; omega), rfl⟩
theorem clockIsF (t : Int) (w : World) (h : isT t = false) :
    Calls Try.prog 40 #[.int .i64 t] w fun e w' => e = .returned (.bool false) ∧ w' = w := (clockIs t w).mono fun _ _ ⟨h1, h2⟩ => ⟨by rw [h1, h], h2⟩
theorem clockIsT (t : Int) (w : World) (h : isT t = true) :
    Calls Try.prog 40 #[.int .i64 t] w fun e w' => e = .returned (.bool true) ∧ w' = w := (clockIs t w).mono fun _ _ ⟨h1, h2⟩ => ⟨by rw [h1, h], h2⟩

def stepOk (A F : Nat → Int) (i : Nat) : Bool := isT (A i) && decide (0 ≤ F i) && decide (F i ≤ 10000) && (decide (i = 0) || (decide (A (i-1) < A i) && decide (F i ≠ F (i-1))))
def chkN (A F : Nat → Int) (n : Nat) : Bool := decide (0 < n) && decide (n ≤ 20000) && decide (A 0 = 0) && (List.range n).all (stepOk A F)
def chk (l : List Step) : Bool := chkN (atv l) (frv l) l.length
def errOf (b : Bool) : Int := if b then 0 else 2

theorem errOf_no {A F : Nat → Int} {n k : Nat} (hk : k < n) (h : stepOk A F k = false) : (2 : Int) = errOf (chkN A F n) := by
  have : (List.range n).all (stepOk A F) = false := by
    rw [Bool.eq_false_iff]
    intro h'
    rw [List.all_eq_true] at h'
    rw [h' k (List.mem_range.2 hk)] at h
    exact Bool.noConfusion h
  simp [errOf, chkN, this]
theorem errOf_yes {A F : Nat → Int} {n k : Nat} (hk : k = n) (h0 : 0 < n) (h1 : n ≤ 20000) (hA : A 0 = 0) (h : ∀ j, j < k → stepOk A F j = true) : (0 : Int) = errOf (chkN A F n) := by
  subst hk
  have : (List.range k).all (stepOk A F) = true := by
    rw [List.all_eq_true]
    intro x hx
    exact h x (List.mem_range.1 hx)
  simp [errOf, chkN, this, h0, h1, hA]

set_option maxHeartbeats 1000000 in
theorem check_loop (A F : Nat → Int) (b off cap n : Nat) (w : World) (hn : 0 < n) (hl : n ≤ 20000) (hA0 : A 0 = 0) (hbk : b < w.heap.size)
    (hA : ∀ i, i < n → w.cell? ⟨b, off + i * 2, none⟩ = some (.int .i64 (A i))) (hF : ∀ i, i < n → w.cell? ⟨b, off + i * 2 + 1, none⟩ = some (.int .i64 (F i))) :
    Calls Try.prog 23 #[.slice (some ⟨b, off, none⟩) n cap] w fun e w' => e = .returned (.int .i64 (errOf (chkN A F n))) ∧ Below w.heap.size w w' := by
  have h0 := hA 0 hn
  simp only [Nat.zero_mul, Nat.add_zero, hA0] at h0
  have e0 : ((n : Int) == 0) = false := by simp; omega
  have e1 : decide ((20000 : Int) < n) = false := by simp; omega
  have HA := Lib.hid hA; clear hA
  have HF := Lib.hid hF; clear hF
  have HA0 := Lib.hid hA0; clear hA0
  go_enter Try.func23, Try.ntmps23
  go_wp2_with fail
  go_step3
  go_wp2_with fail
  go_step3
  go_wp2_with fail
  go_loopw [3, 23] (fun ok i wr => ∃ k : Nat, k ≤ n ∧ i = .int .i64 k ∧ ok = .bool true ∧ Below w.heap.size w wr ∧ (∀ j, j < k → stepOk A F j = true)) (fun _ i _ => n - (intOf i).toNat)
  case atStart => exact ⟨0, Nat.zero_le _, rfl, rfl, Below.refl _ _, by omega⟩
  case round =>
    obtain ⟨k, hk, rfl, rfl, hb, hok⟩ := hrel
    have HOK := Lib.hid hok; clear hok
    by_cases hkn : k < n
    · have hAk0 := HA.out k hkn
      have hFk0 := HF.out k hkn
      have hAk : wr.cell? ⟨b, off + k * 2, none⟩ = some (.int .i64 (A k)) := (hb.cell (by exact hbk)).trans hAk0
      have hFk : wr.cell? ⟨b, off + k * 2 + 1, none⟩ = some (.int .i64 (F k)) := (hb.cell (by exact hbk)).trans hFk0
      have hbw : b < wr.heap.size := Nat.lt_of_lt_of_le hbk hb.size
      have hB : Below w.heap.size w (wr.alloc (.cells #[.int .i64 (A k), .int .i64 (F k)] 38)) := hb.alloc hb.size _
      have HB := Lib.hid hB; clear hB hAk0 hFk0
      have hkk : (k : Int) < n := by omega
      cases hc1 : isT (A k)
      · have hs : stepOk A F k = false := by simp [stepOk, hc1]
        have HS := Lib.hid hs; clear hs
        go_wp2_with fail
        go_quiet ((go_at_call 40; exact Calls.quiet_of_same (clockIsF _ _ hc1)))
        go_wp2_with fail
        rw [Exit.noGoto_ret]
        go_ret
        exact ⟨ret_int (errOf_no hkn HS.out), below_drewN HB.out _⟩
      by_cases hc2 : 0 ≤ F k
      rotate_left
      · have hs : stepOk A F k = false := by simp [stepOk, hc1, hc2]
        have hd2 : decide (0 ≤ F k) = false := by simpa using hc2
        have HS := Lib.hid hs; clear hs hc2
        go_wp2_with fail
        go_quiet ((go_at_call 40; exact Calls.quiet_of_same (clockIsT _ _ hc1)))
        go_wp2_with fail
        rw [Exit.noGoto_ret]
        go_ret
        exact ⟨ret_int (errOf_no hkn HS.out), below_drewN HB.out _⟩
      by_cases hc3 : F k ≤ 10000
      rotate_left
      · have hs : stepOk A F k = false := by simp [stepOk, hc1, hc3]
        have hd3 : decide (F k ≤ 10000) = false := by simpa using hc3
        have HS := Lib.hid hs; clear hs hc3
        go_wp2_with fail
        go_quiet ((go_at_call 40; exact Calls.quiet_of_same (clockIsT _ _ hc1)))
        go_wp2_with fail
        rw [Exit.noGoto_ret]
        go_ret
        exact ⟨ret_int (errOf_no hkn HS.out), below_drewN HB.out _⟩
      by_cases hk0 : k = 0
      · have hkz : ((k : Int) == 0) = true := by simp [hk0]
        have hs : stepOk A F k = true := by subst hk0; simp [stepOk, hc1, hc2, hc3]
        have HS := Lib.hid hs; clear hs hk0
        go_wp2_with fail
        go_quiet ((go_at_call 40; exact Calls.quiet_of_same (clockIsT _ _ hc1)))
        go_wp2_with fail
        go_roundw
        case rel => exact ⟨k + 1, by omega, by go_num, rfl, below_drewN HB.out _, fun j hj => by
          by_cases h : j = k
          · subst h; exact HS.out
          · exact HOK.out j (by omega)⟩
        case measure => simp [intOf]; omega
      obtain ⟨p, rfl⟩ : ∃ p, k = p + 1 := ⟨k - 1, by omega⟩
      have hkz : (((p + 1 : Nat) : Int) == 0) = false := by simp; omega
      have hkz' : ((p : Int) + 1 == 0) = false := by simp; omega
      have hAp0 := HA.out p (by omega)
      have hFp0 := HF.out p (by omega)
      have hAp : wr.cell? ⟨b, off + p * 2, none⟩ = some (.int .i64 (A p)) := (hb.cell (by exact hbk)).trans hAp0
      have hFp : wr.cell? ⟨b, off + p * 2 + 1, none⟩ = some (.int .i64 (F p)) := (hb.cell (by exact hbk)).trans hFp0
      clear hAp0 hFp0
      have hpp : (p : Int) < n := by omega
      by_cases hc4 : A p < A (p + 1)
      rotate_left
      · have hs : stepOk A F (p + 1) = false := by simp [stepOk, hc4]
        have hd4 : decide (A p < A (p + 1)) = false := by simpa using hc4
        have HS := Lib.hid hs; clear hs hc4
        go_wp2_with fail
        go_quiet ((go_at_call 40; exact Calls.quiet_of_same (clockIsT _ _ hc1)))
        go_wp2_with fail
        rw [Exit.noGoto_ret]
        go_ret
        exact ⟨ret_int (errOf_no hkn HS.out), below_drewN HB.out _⟩
      by_cases hc5 : F (p + 1) = F p
      · have hs : stepOk A F (p + 1) = false := by simp [stepOk, hc5]
        have hd5 : (F (p + 1) != F p) = false := by simpa using hc5
        have HS := Lib.hid hs; clear hs hc5
        go_wp2_with fail
        go_quiet ((go_at_call 40; exact Calls.quiet_of_same (clockIsT _ _ hc1)))
        go_wp2_with fail
        rw [Exit.noGoto_ret]
        go_ret
        exact ⟨ret_int (errOf_no hkn HS.out), below_drewN HB.out _⟩
      · have hs : stepOk A F (p + 1) = true := by simp [stepOk, hc1, hc2, hc3, hc4, hc5]
        have hd5 : (F (p + 1) != F p) = true := by simpa using hc5
        have HS := Lib.hid hs; clear hs hc5
        go_wp2_with fail
        go_quiet ((go_at_call 40; exact Calls.quiet_of_same (clockIsT _ _ hc1)))
        go_wp2_with fail
        go_roundw
        case rel => exact ⟨p + 1 + 1, by omega, by go_num, rfl, below_drewN HB.out _, fun j hj => by
          by_cases h : j = p + 1
          · subst h; exact HS.out
          · exact HOK.out j (by omega)⟩
        case measure => simp [intOf]; omega
    · go_wp2_with fail
      rw [Exit.noGoto_ret]
      go_ret
      exact ⟨ret_int (errOf_yes (by omega) hn hl HA0.out HOK.out), hb⟩

end Go.Proofs.Ytjknmnmilladlaa

/-
  Plain facts on profiles: what Check says, where a time lies, and the profile's number at a time. No program here.
-/
namespace Go.Proofs.Ytjknmnmilladlaa

/-- The greatest index below n whose A is not above t; 0 if there is none. -/
def plcN (A : Nat → Int) (t : Int) : Nat → Nat
  | 0 => 0
  | n + 1 => if A n ≤ t then n else plcN A t n

theorem plcN_spec {A : Nat → Int} {t : Int} {n p : Nat} (hp : p < n) (h1 : A p ≤ t) (h2 : ∀ z, p < z → z < n → t < A z) : plcN A t n = p := by
  induction n with
  | zero => omega
  | succ n ih =>
    unfold plcN
    by_cases h : A n ≤ t
    · rw [if_pos h]
      rcases Nat.lt_or_ge p n with h3 | h3
      · have := h2 n h3 (by omega); omega
      · omega
    · rw [if_neg h]
      have : p ≠ n := fun e => by subst e; exact h h1
      exact ih (by omega) fun z hz hzn => h2 z hz (by omega)

theorem plcN_is {A : Nat → Int} {t : Int} {n : Nat} (h0 : 0 < n) (hA : A 0 ≤ t) : plcN A t n < n ∧ A (plcN A t n) ≤ t ∧ ∀ z, plcN A t n < z → z < n → t < A z := by
  induction n with
  | zero => omega
  | succ n ih =>
    unfold plcN
    by_cases h : A n ≤ t
    · rw [if_pos h]
      exact ⟨by omega, h, fun z h1 h2 => by omega⟩
    · rw [if_neg h]
      have hn : 0 < n := by
        rcases Nat.eq_zero_or_pos n with rfl | h'
        · exact absurd hA h
        · exact h'
      obtain ⟨a, b, c⟩ := ih hn
      refine ⟨by omega, b, fun z h1 h2 => ?_⟩
      rcases Nat.lt_or_ge z n with h3 | h3
      · exact c z h1 h3
      · obtain rfl : z = n := by omega
        omega

def plc (l : List Step) (t : Int) : Nat := plcN (atv l) t l.length
/-- what a profile says of a time -/
def val (l : List Step) (t : Int) : Int := frv l (plc l t)

/-- What Check says, written out. -/
structure Valid (l : List Step) : Prop where
  pos : 0 < l.length
  len : l.length ≤ 20000
  zero : atv l 0 = 0
  time : ∀ i, i < l.length → 0 ≤ atv l i ∧ atv l i ≤ 1099511627775
  fr : ∀ i, i < l.length → 0 ≤ frv l i ∧ frv l i ≤ 10000
  next : ∀ i, i + 1 < l.length → atv l i < atv l (i + 1) ∧ frv l (i + 1) ≠ frv l i

theorem isT_iff {t : Int} : isT t = true ↔ 0 ≤ t ∧ t ≤ 1099511627775 := by simp [isT]

theorem chk_iff {l : List Step} : chk l = true ↔ Valid l := by
  constructor
  · intro h
    simp only [chk, chkN, Bool.and_eq_true, decide_eq_true_eq, List.all_eq_true, List.mem_range] at h
    obtain ⟨⟨⟨h1, h2⟩, h3⟩, h4⟩ := h
    have h5 : ∀ i, i < l.length → (0 ≤ atv l i ∧ atv l i ≤ 1099511627775) ∧ 0 ≤ frv l i ∧ frv l i ≤ 10000 ∧ (i = 0 ∨ (atv l (i - 1) < atv l i ∧ frv l i ≠ frv l (i - 1))) := by
      intro i hi
      have := h4 i hi
      simp only [stepOk, Bool.and_eq_true, Bool.or_eq_true, decide_eq_true_eq, isT_iff] at this
      obtain ⟨⟨⟨a, b⟩, c⟩, d⟩ := this
      exact ⟨a, b, c, d⟩
    exact ⟨h1, h2, h3, fun i hi => (h5 i hi).1, fun i hi => ⟨(h5 i hi).2.1, (h5 i hi).2.2.1⟩, fun i hi => by
      rcases (h5 (i + 1) hi).2.2.2 with h | h
      · omega
      · exact h⟩
  · intro h
    simp only [chk, chkN, Bool.and_eq_true, decide_eq_true_eq, List.all_eq_true, List.mem_range]
    refine ⟨⟨⟨h.pos, h.len⟩, h.zero⟩, fun i hi => ?_⟩
    simp only [stepOk, Bool.and_eq_true, Bool.or_eq_true, decide_eq_true_eq, isT_iff]
    refine ⟨⟨⟨h.time i hi, (h.fr i hi).1⟩, (h.fr i hi).2⟩, ?_⟩
    cases i with
    | zero => exact .inl rfl
    | succ i => exact .inr (h.next i hi)

theorem Valid.rise {l : List Step} (h : Valid l) : ∀ i j, i < j → j < l.length → atv l i < atv l j := by
  intro i j hij
  induction j with
  | zero => omega
  | succ j ih =>
    intro hj
    have h1 := (h.next j hj).1
    rcases Nat.lt_or_ge i j with h2 | h2
    · have := ih h2 (by omega); omega
    · obtain rfl : i = j := by omega
      exact h1

theorem Valid.plc {l : List Step} (h : Valid l) {t : Int} (ht : 0 ≤ t) : plc l t < l.length ∧ atv l (plc l t) ≤ t ∧ ∀ z, plc l t < z → z < l.length → t < atv l z :=
  plcN_is h.pos (by rw [h.zero]; exact ht)

theorem plc_eq {l : List Step} {t : Int} {p : Nat} (hp : p < l.length) (h1 : atv l p ≤ t) (h2 : ∀ z, p < z → z < l.length → t < atv l z) : plc l t = p := plcN_spec hp h1 h2

theorem Valid.plc_mono {l : List Step} (h : Valid l) {s t : Int} (hs : 0 ≤ s) (hst : s ≤ t) : Ytjknmnmilladlaa.plc l s ≤ Ytjknmnmilladlaa.plc l t := by
  obtain ⟨a, b, c⟩ := h.plc hs
  obtain ⟨a', b', c'⟩ := h.plc (Int.le_trans hs hst)
  rcases Nat.lt_or_ge (Ytjknmnmilladlaa.plc l t) (Ytjknmnmilladlaa.plc l s) with h1 | h1
  · have := c' _ h1 a; omega
  · exact h1

/-- The part of a profile from one time to another: each step's number, the first one from the first time on. -/
def cutI (l : List Step) (frm : Int) (p q : Nat) : List Step := (List.range' p (q - p)).map fun x => ⟨max (atv l x) frm, frv l x⟩
def cutL (l : List Step) (frm to : Int) : List Step := cutI l frm (plc l frm) (plc l (to - 1) + 1)

theorem cutI_snoc (l : List Step) (frm : Int) (p q : Nat) (h : p ≤ q) : cutI l frm p (q + 1) = cutI l frm p q ++ [⟨max (atv l q) frm, frv l q⟩] := by
  unfold cutI
  rw [show q + 1 - p = (q - p) + 1 by omega, List.range'_concat, List.map_append]
  simp
  constructor <;> congr 2 <;> omega
theorem length_cutI (l : List Step) (frm : Int) (p q : Nat) : (cutI l frm p q).length = q - p := by simp [cutI]
theorem cutI_nil (l : List Step) (frm : Int) (p : Nat) : cutI l frm p p = [] := by simp [cutI]

end Go.Proofs.Ytjknmnmilladlaa

/-
  Walks: slices.BinarySearchFunc at steps, and steps.place: the last step that begins at a time or before it.
-/
namespace Go.Proofs.Ytjknmnmilladlaa
open Go.RowKit

set_option maxHeartbeats 1000000 in
theorem checkAny {w : World} {v : Value} {l : List Step} (h : IsSteps w v l) :
    Calls Try.prog 23 #[v] w fun e w' => e = .returned (.int .i64 (errOf (chk l))) ∧ Below w.heap.size w w' := by
  have hlen : l.length ≤ 9223372036854775807 := IsRow.len h
  by_cases hn : 0 < l.length
  · obtain ⟨b, off, cap, rfl, hnc, hcap, hb, hA, hF, hR⟩ := h.cells hn
    by_cases hl : l.length ≤ 20000
    · by_cases h0 : atv l 0 = 0
      · exact check_loop (atv l) (frv l) b off cap l.length w hn hl h0 hb hA hF
      · have hz : chk l = false := by simp [chk, chkN, h0]
        rw [hz]
        have h00 := hA 0 hn
        simp only [Nat.zero_mul, Nat.add_zero] at h00
        clear hA hF hz hR
        generalize atv l 0 = a0 at *
        generalize l.length = n at *
        clear l h
        have e0 : ((n : Int) == 0) = false := by simp; omega
        have e1 : decide ((20000 : Int) < n) = false := by simp; omega
        have e2 : (a0 != 0) = true := by simpa using h0
        go_enter Try.func23, Try.ntmps23
        go_wp2_with fail
        go_step3
        go_wp2_with fail
        rw [Exit.noGoto_ret]
        go_ret
        exact ⟨rfl, Below.refl _ _⟩
    · have hz : chk l = false := by simp [chk, chkN]; omega
      rw [hz]
      clear hA hF hz hR
      generalize l.length = n at *
      clear l h
      have e0 : ((n : Int) == 0) = false := by simp; omega
      have e1 : decide ((20000 : Int) < n) = true := by simp; omega
      go_enter Try.func23, Try.ntmps23
      go_wp2_with fail
      go_step3
      go_wp2_with fail
      rw [Exit.noGoto_ret]
      go_ret
      exact ⟨rfl, Below.refl _ _⟩
  · have hz : chk l = false := by simp [chk, chkN, hn]
    rw [hz]
    obtain ⟨ao, cap, rfl, _, _⟩ := h.shape
    have hn0 : l.length = 0 := by omega
    rw [hn0]
    clear hz h hlen hn hn0
    go_enter Try.func23, Try.ntmps23
    go_wp2_with fail
    go_step3
    go_wp2_with fail
    rw [Exit.noGoto_ret]
    go_ret
    exact ⟨rfl, Below.refl _ _⟩

set_option maxHeartbeats 400000 in
theorem placeCmp (a f t : Int) (w : World) (h1 : 0 ≤ a) (h2 : a ≤ 1099511627775) (h3 : 0 ≤ t) (h4 : t ≤ 1099511627775) :
    Calls Try.prog 60 #[.agg #[.int .i64 a, .int .i64 f], .int .i64 t] w fun e w' => e = .returned (.int .i64 (a - t)) ∧ Below w.heap.size w w' := by
  go_enter Try.func60, Try.ntmps60
  go_wp2
  go_ret
  exact ⟨rfl, (Below.refl _ _).alloc (Nat.le_refl _) _⟩

def BsPost (A : Nat → Int) (n : Nat) (t : Int) (w : World) (e : Ending) (w' : World) : Prop :=
  ∃ x : Nat, x ≤ n ∧ (∀ z, z < x → A z < t) ∧ (∀ z, x ≤ z → z < n → t ≤ A z) ∧ e = .returned (.tuple #[.int .i64 x, .bool (decide (x < n ∧ A x = t))]) ∧ Below w.heap.size w w'

theorem ret_bs {x : Nat} {b c : Bool} (h : b = c) : Ending.returned (.tuple #[.int .i64 x, .bool b]) = .returned (.tuple #[.int .i64 x, .bool c]) := by rw [h]

set_option maxHeartbeats 1000000 in
theorem bsearch (A F : Nat → Int) (b off cap n : Nat) (t : Int) (w : World) (hn : n ≤ 20000) (hbk : b < w.heap.size) (ht0 : 0 ≤ t) (ht1 : t ≤ 1099511627775)
    (hA : ∀ i, i < n → w.cell? ⟨b, off + i * 2, none⟩ = some (.int .i64 (A i))) (hF : ∀ i, i < n → w.cell? ⟨b, off + i * 2 + 1, none⟩ = some (.int .i64 (F i)))
    (hT : ∀ i, i < n → 0 ≤ A i ∧ A i ≤ 1099511627775) (hS : ∀ i j, i < j → j < n → A i < A j) :
    Calls Try.prog 59 #[.slice (some ⟨b, off, none⟩) n cap, .int .i64 t, .func (.func 60) #[] #[]] w (BsPost A n t w) := by
  have HA := Lib.hid hA; clear hA
  have HF := Lib.hid hF; clear hF
  have HT := Lib.hid hT; clear hT
  have HS := Lib.hid hS; clear hS
  go_enter Try.func59, Try.ntmps59
  go_wp2_with fail
  go_loopw [9, 10] (fun i j wr => ∃ x y : Nat, x ≤ y ∧ y ≤ n ∧ i = .int .i64 x ∧ j = .int .i64 y ∧ Below w.heap.size w wr ∧ (∀ z, z < x → A z < t) ∧ (∀ z, y ≤ z → z < n → t ≤ A z)) (fun i j _ => (intOf j - intOf i).toNat)
  case atStart => exact ⟨0, n, Nat.zero_le _, Nat.le_refl _, rfl, rfl, Below.refl _ _, by omega, by omega⟩
  case round =>
    obtain ⟨x, y, hxy, hyn, rfl, rfl, hb, hlo, hhi⟩ := hrel
    have HLO := Lib.hid hlo; clear hlo
    have HHI := Lib.hid hhi; clear hhi
    by_cases hlt : x < y
    · have hbw : b < wr.heap.size := Nat.lt_of_lt_of_le hbk hb.size
      have hm : (x + y) / 2 < n := by omega
      obtain ⟨am, ham⟩ : ∃ am, am = A ((x + y) / 2) := ⟨_, rfl⟩
      obtain ⟨fm, hfm⟩ : ∃ fm, fm = F ((x + y) / 2) := ⟨_, rfl⟩
      have c1 : wr.cell? ⟨b, off + (x + y) / 2 * 2, none⟩ = some (.int .i64 am) := by rw [ham]; exact (hb.cell (by exact hbk)).trans (HA.out _ hm)
      have c2 : wr.cell? ⟨b, off + (x + y) / 2 * 2 + 1, none⟩ = some (.int .i64 fm) := by rw [hfm]; exact (hb.cell (by exact hbk)).trans (HF.out _ hm)
      have hT := HT.out _ hm
      rw [← ham] at hT
      obtain ⟨hT0, hT1⟩ := hT
      have HAM := Lib.hid ham; clear ham
      clear hfm
      have HB := Lib.hid hb; clear hb
      by_cases hc : am < t
      · go_wp2_with (go_at_call 60; refine (placeCmp am fm t _ hT0 hT1 ht0 ht1).mono ?_; rintro e w1 ⟨rfl, hb1⟩)
        go_roundw
        case rel =>
          refine ⟨(x + y) / 2 + 1, y, by omega, hyn, by go_num, rfl, HB.out.trans (hb1.mono HB.out.size), fun z hz => ?_, HHI.out⟩
          by_cases hz' : z = (x + y) / 2
          · subst hz'; rw [← HAM.out]; exact hc
          · have := HS.out z ((x + y) / 2) (by omega) hm
            rw [← HAM.out] at this
            omega
        case measure => simp [intOf]; omega
      · have hc' : t ≤ am := by omega
        go_wp2_with (go_at_call 60; refine (placeCmp am fm t _ hT0 hT1 ht0 ht1).mono ?_; rintro e w1 ⟨rfl, hb1⟩)
        go_roundw
        case rel =>
          refine ⟨x, (x + y) / 2, by omega, by omega, rfl, by go_num, HB.out.trans (hb1.mono HB.out.size), HLO.out, fun z hz hzn => ?_⟩
          by_cases hz' : z = (x + y) / 2
          · subst hz'; rw [← HAM.out]; exact hc'
          · have := HS.out ((x + y) / 2) z (by omega) hzn
            rw [← HAM.out] at this
            omega
        case measure => simp [intOf]; omega
    · obtain rfl : x = y := by omega
      by_cases hxn : x < n
      · obtain ⟨am, ham⟩ : ∃ am, am = A x := ⟨_, rfl⟩
        obtain ⟨fm, hfm⟩ : ∃ fm, fm = F x := ⟨_, rfl⟩
        have c1 : wr.cell? ⟨b, off + x * 2, none⟩ = some (.int .i64 am) := by rw [ham]; exact (hb.cell (by exact hbk)).trans (HA.out _ hxn)
        have c2 : wr.cell? ⟨b, off + x * 2 + 1, none⟩ = some (.int .i64 fm) := by rw [hfm]; exact (hb.cell (by exact hbk)).trans (HF.out _ hxn)
        have hT := HT.out _ hxn
        rw [← ham] at hT
        obtain ⟨hT0, hT1⟩ := hT
        have HAM := Lib.hid ham; clear ham
        clear hfm
        have HB := Lib.hid hb; clear hb
        go_wp2_with (go_at_call 60; refine (placeCmp am fm t _ hT0 hT1 ht0 ht1).mono ?_; rintro e w1 ⟨rfl, hb1⟩)
        go_ret2
        refine ⟨x, hyn, HLO.out, HHI.out, ret_bs ?_, HB.out.trans (hb1.mono HB.out.size)⟩
        rw [Bool.eq_iff_iff]
        simp only [hxn, true_and, ← HAM.out]
        simp
        omega
      · have HB := Lib.hid hb; clear hb
        go_wp2_with fail
        go_ret2
        refine ⟨x, hyn, HLO.out, HHI.out, ret_bs ?_, HB.out⟩
        simp [hxn]

def PlPost (A : Nat → Int) (n : Nat) (t : Int) (w : World) (e : Ending) (w' : World) : Prop :=
  ∃ p : Nat, p < n ∧ A p ≤ t ∧ (∀ z, p < z → z < n → t < A z) ∧ e = .returned (.int .i64 p) ∧ Below w.heap.size w w'

set_option maxHeartbeats 1000000 in
theorem place_raw (A F : Nat → Int) (b off cap n : Nat) (t : Int) (w : World) (h0n : 0 < n) (hn : n ≤ 20000) (hbk : b < w.heap.size) (ht0 : 0 ≤ t) (ht1 : t ≤ 1099511627775) (hA0 : A 0 = 0)
    (hA : ∀ i, i < n → w.cell? ⟨b, off + i * 2, none⟩ = some (.int .i64 (A i))) (hF : ∀ i, i < n → w.cell? ⟨b, off + i * 2 + 1, none⟩ = some (.int .i64 (F i)))
    (hT : ∀ i, i < n → 0 ≤ A i ∧ A i ≤ 1099511627775) (hS : ∀ i j, i < j → j < n → A i < A j) :
    Calls Try.prog 41 #[.slice (some ⟨b, off, none⟩) n cap, .int .i64 t] w (PlPost A n t w) := by
  have HC := Lib.hid (bsearch A F b off cap n t w hn hbk ht0 ht1 hA hF hT hS)
  have HA0 := Lib.hid hA0; clear hA0
  have HS := Lib.hid hS; clear hS
  clear hA hF hT
  go_enter Try.func41, Try.ntmps41
  go_wp2_with fail
  refine HC.out.mono ?_
  rintro e w1 ⟨x, hx, hlo, hhi, rfl, hb⟩
  have HLO := Lib.hid hlo; clear hlo
  have HHI := Lib.hid hhi; clear hhi
  have HB := Lib.hid hb; clear hb
  by_cases hf : x < n ∧ A x = t
  · have hd : decide (x < n ∧ A x = t) = true := by simpa using hf
    rw [hd]
    have HFF := Lib.hid hf; clear hf hd
    go_wp2_with fail
    go_ret
    refine ⟨x, HFF.out.1, by rw [HFF.out.2]; omega, fun z hz hzn => ?_, rfl, HB.out⟩
    have := HS.out x z hz hzn
    rw [HFF.out.2] at this
    exact this
  · have hd : decide (x < n ∧ A x = t) = false := by simpa using hf
    rw [hd]
    have hx0 : 0 < x := by
      rcases Nat.eq_zero_or_pos x with rfl | h
      · exfalso
        have h1 := HHI.out 0 (Nat.le_refl _) h0n
        rw [HA0.out] at h1
        exact hf ⟨h0n, by rw [HA0.out]; omega⟩
      · exact h
    have HFF := Lib.hid hf; clear hf hd
    go_wp2_with fail
    go_ret
    refine ⟨x - 1, by omega, ?_, fun z hz hzn => ?_, ret_int (by omega), HB.out⟩
    · have := HLO.out (x - 1) (by omega); omega
    · have h1 := HHI.out z (by omega) hzn
      rcases Nat.lt_or_ge x z with h2 | h2
      · have h3 := HS.out x z h2 hzn
        have h4 := HHI.out x (Nat.le_refl _) (by omega)
        omega
      · obtain rfl : z = x := by omega
        have : A z ≠ t := fun h => HFF.out ⟨hzn, h⟩
        omega

end Go.Proofs.Ytjknmnmilladlaa

/-
  Walks: steps.place and steps.cut, as plain functions of the list that the slice reads as.
-/
namespace Go.Proofs.Ytjknmnmilladlaa
open Go.RowKit

theorem placeAny {w : World} {v : Value} {l : List Step} (h : IsSteps w v l) (hv : Valid l) (t : Int) (ht : 0 ≤ t) (ht1 : t ≤ 1099511627775) :
    Calls Try.prog 41 #[v, .int .i64 t] w fun e w' => e = .returned (.int .i64 (plc l t)) ∧ Below w.heap.size w w' := by
  obtain ⟨b, off, cap, rfl, hnc, hcap, hb, hA, hF, hR⟩ := h.cells hv.pos
  refine (place_raw (atv l) (frv l) b off cap l.length t w hv.pos hv.len hb ht ht1 hv.zero hA hF hv.time hv.rise).mono ?_
  rintro e w' ⟨p, hp, h1, h2, rfl, hB⟩
  exact ⟨ret_int (by rw [plc_eq hp h1 h2]), hB⟩

theorem Try.info38 : (Try.prog.info? 38).map (fun i => (i.zero, i.size, i.bytes)) = some (some (.agg #[.int .i64 0, .int .i64 0]), 2, 16) := by kernel_rfl
theorem Try.info3 : (Try.prog.info? 3).map (fun i => (i.zero, i.size, i.bytes)) = some (some (.int .i64 0), 1, 8) := by kernel_rfl

def CutPost (l : List Step) (frm to : Int) (w : World) (e : Ending) (w' : World) : Prop :=
  ∃ v, e = .returned v ∧ OwnSteps w' w.heap.size v (cutL l frm to) ∧ Below w.heap.size w w'

set_option maxHeartbeats 1000000 in
set_option maxRecDepth 100000 in
theorem cutAny {w : World} {v : Value} {l : List Step} (h : IsSteps w v l) (hv : Valid l) (frm to : Int) (hf : 0 ≤ frm) (hf1 : frm ≤ 1099511627775) (hto : frm < to) (_hto1 : to ≤ 1099511627775) :
    Calls Try.prog 57 #[v, .int .i64 frm, .int .i64 to] w (CutPost l frm to w) := by
  have HP := Lib.hid (placeAny h hv frm hf hf1)
  obtain ⟨b, off, cap, rfl, hnc, hcap, hb, hA, hF, hR⟩ := h.cells hv.pos
  have HA := Lib.hid hA; clear hA
  have HF := Lib.hid hF; clear hF
  clear hR h
  have hlen := hv.len
  have hp := (hv.plc hf).1
  generalize hn : l.length = n at *
  generalize hpe : plc l frm = p at *
  have HV := Lib.hid hv; clear hv
  have HN := Lib.hid hn; clear hn
  have HPE := Lib.hid hpe; clear hpe
  obtain ⟨i0, hi, hz0, hz1, hz2⟩ := info_parts Try.info38
  go_enter Try.func57, Try.ntmps57
  go_wp2_with fail
  refine HP.out.mono ?_
  rintro e w1 ⟨rfl, hb1⟩
  have HB1 := Lib.hid hb1; clear hb1
  go_wp2_with fail
  go_loopw [7, 8] (fun o i wr => ∃ k : Nat, p ≤ k ∧ k ≤ n ∧ i = .int .i64 k ∧ Below w.heap.size w wr ∧ OwnSteps wr w.heap.size o (cutI l frm p k) ∧ (∀ j, p ≤ j → j < k → atv l j < to)) (fun _ i _ => n - (intOf i).toNat)
  case atStart => exact ⟨p, Nat.le_refl _, by omega, rfl, HB1.out, by rw [cutI_nil]; exact World.ownsRow_nil _ _ _ _, by omega⟩
  case round =>
    obtain ⟨k, hpk, hkn, rfl, hbr, hown, hlt⟩ := hrel
    have HLT := Lib.hid hlt; clear hlt
    have HOWN := Lib.hid hown; clear hown
    have HB := Lib.hid hbr
    have hwr := hbr.size
    clear hbr
    by_cases hk : k < n
    · obtain ⟨ak, hak⟩ : ∃ am, am = atv l k := ⟨_, rfl⟩
      obtain ⟨fk, hfk⟩ : ∃ fm, fm = frv l k := ⟨_, rfl⟩
      have c1 : wr.cell? ⟨b, off + k * 2, none⟩ = some (.int .i64 ak) := by rw [hak]; exact (HB.out.cell (by exact hb)).trans (HA.out _ hk)
      have c2 : wr.cell? ⟨b, off + k * 2 + 1, none⟩ = some (.int .i64 fk) := by rw [hfk]; exact (HB.out.cell (by exact hb)).trans (HF.out _ hk)
      have hbw : b < wr.heap.size := Nat.lt_of_lt_of_le hb hwr
      have HAK := Lib.hid hak; clear hak
      have HFK := Lib.hid hfk; clear hfk
      have hkk : (k : Int) < n := by omega
      by_cases hc : ak < to
      · go_wp2_with fail
        have hob : u7.ownBlock ≠ some b := fun e => by have := (World.ownsRow.lt HOWN.out) b e; omega
        have hk0 : (0 : Int) ≤ (k : Int) := Int.natCast_nonneg _
        have hl2 : (cutI l frm p k).length ≤ 20000 := by rw [length_cutI]; omega
        go_region_held3 (fun w' => w'.cell? ⟨b, off + k * 2, none⟩ = some (.int .i64 ak) ∧ w'.cell? ⟨b, off + k * 2 + 1, none⟩ = some (.int .i64 fk)) (first | go_keep | (go_split_ands; refine ⟨?_, ?_⟩ <;> (rw [hgrow.cell_far _ (by simp; omega) (Ne.symm hob)]; assumption))) ((refine step_append_lies _ (by rfl) _ _ _ (by rfl) w.heap.size 38 i0 _ 2 16 Try.underlying33 hi hz0 hz1 hz2 rfl (by omega) u7 _ _ (by rfl) ((HOWN.out.alloc _).drew) ⟨wr.heap.size, 0, none⟩ 1 1 [.int .i64 (if ak < frm then frm else ak), .int .i64 fk] (by rfl) (by rfl) (World.news_of_block (cs := #[.int .i64 (if ak < frm then frm else ak), .int .i64 fk]) (t := 38) (fr := (0, 0)) (heap_alloc_new wr _)) (by simp [Value.oneCell']) (by omega) (by unfold maxLen; omega) (by omega) (by simp; omega) (wr.heap.size + 1) (by simp) ?_; intro gg cap1 w2 hown1 hgrow hat hlt2))
        have HO := Lib.hid hown1; clear hown1
        have HG := Lib.hid hgrow; clear hgrow
        clear hat hob
        go_wp2_with fail
        go_roundw
        case rel =>
          have hB2 : Below w.heap.size wr w2 := ((Below.refl _ _).alloc hwr _).drew.grown HG.out (by simp; omega) (fun g hg => ((World.ownsRow.lt HOWN.out) g hg).1)
          refine ⟨k + 1, by omega, by omega, by go_num, HB.out.trans hB2, ?_, fun j hj1 hj2 => ?_⟩
          · have he : cutI l frm p (k + 1) = cutI l frm p k ++ [⟨if ak < frm then frm else ak, fk⟩] := by
              rw [cutI_snoc _ _ _ _ hpk, HAK.out, HFK.out]
              congr 3
              split <;> omega
            rw [he]
            unfold OwnSteps
            rw [flatS_append, List.length_append]
            exact HO.out
          · by_cases h : j = k
            · subst h; rw [← HAK.out]; exact hc
            · exact HLT.out j hj1 (by omega)
        case measure => simp [intOf]; omega
      · have hq : k = plc l (to - 1) + 1 := by
          have hn' := HN.out
          have hak' := HAK.out
          have hkp : p < k := by
            rcases Nat.lt_or_ge p k with h | h
            · exact h
            · obtain rfl : p = k := by omega
              have := (HV.out.plc hf).2.1
              rw [HPE.out] at this
              omega
          have := plc_eq (l := l) (t := to - 1) (p := k - 1) (by omega) (by have := HLT.out (k - 1) (by omega) (by omega); omega) (fun z hz hzn => by
            have h1 : atv l k ≤ atv l z := by
              rcases Nat.lt_or_ge k z with h | h
              · have := HV.out.rise k z h hzn; omega
              · obtain rfl : k = z := by omega
                omega
            omega)
          omega
        have HQ := Lib.hid hq; clear hq
        go_wp2_with fail
        go_ret
        refine ⟨_, rfl, ?_, HB.out⟩
        unfold cutL
        rw [← HQ.out, HPE.out]
        exact HOWN.out
    · have hq : k = plc l (to - 1) + 1 := by
        have hn' := HN.out
        have := plc_eq (l := l) (t := to - 1) (p := k - 1) (by omega) (by have := HLT.out (k - 1) (by omega) (by omega); omega) (fun z hz hzn => by omega)
        omega
      have HQ := Lib.hid hq; clear hq
      go_wp2_with fail
      go_ret
      refine ⟨_, rfl, ?_, HB.out⟩
      unfold cutL
      rw [← HQ.out, HPE.out]
      exact HOWN.out

end Go.Proofs.Ytjknmnmilladlaa

/-
  Walks: slices.Clone at steps: a slice that reads the same, in memory of the call's own.
-/
namespace Go.Proofs.Ytjknmnmilladlaa
open Go.RowKit

set_option maxHeartbeats 1000000 in
set_option maxRecDepth 100000 in
theorem cloneAny {w : World} {v : Value} {l : List Step} (h : IsSteps w v l) (hl : l.length ≤ 40000) :
    Calls Try.prog 32 #[v] w fun e w' => (∃ v', e = .returned v' ∧ OwnSteps w' w.heap.size v' l) ∧ Below w.heap.size w w' := by
  obtain ⟨hlen, ao, cap, rfl, h1, h2, h3⟩ := h
  have q33 : ∀ (w : World) (a : Option Addr) (n c n' c' : Nat), (binOp .eql 33 (.slice a n c) (.slice none n' c')).run Try.prog w = .ok (.bool a.isNone) w := fun w a n c n' c' => Lib.run_eql_slice_nil w _ _ a n c n' c' Try.underlying33
  cases ao with
  | none =>
    have hn : l = [] := by
      rcases Nat.eq_zero_or_pos l.length with h | h
      · exact List.eq_nil_of_length_eq_zero h
      · obtain ⟨_, _, h, _⟩ := h3 h; simp at h
    subst hn
    clear h3 hlen
    go_enter Try.func32, Try.ntmps32
    go_wp2
    go_ret
    exact ⟨⟨_, rfl, World.ownsRow_nil _ _ _ _⟩, Below.refl _ _⟩
  | some ad =>
    have hnews : ∀ (x : Obj) j u, (flatS l)[j]? = some u → (w.alloc x).cell? (ad.add j) = some u := by
      intro x j u hj
      have hn : 0 < l.length := by
        rcases Nat.eq_zero_or_pos l.length with h | h
        · have := List.eq_nil_of_length_eq_zero h
          subst this; simp [flatS] at hj
        · exact h
      obtain ⟨b, off, hb, hr⟩ := h3 hn
      simp only [Option.some.injEq] at hb
      subst hb
      rw [Addr.add_lit]
      exact Lib.cell?_alloc_some _ (hr j u hj)
    have HN := Lib.hid hnews; clear hnews h3
    have HL := Lib.hid hlen; clear hlen
    obtain ⟨i0, hi, hz0, hz1, hz2⟩ := info_parts Try.info38
    go_enter Try.func32, Try.ntmps32
    go_wp2_with (at_builtin; refine wpList_append_own _ rfl (.tmp 5) (.tmp 6) 33 rfl w.heap.size 38 i0 _ 2 16 Try.underlying33 hi hz0 hz1 hz2 rfl (by decide) _ _ _ rfl (World.ownsRow_made w #[] 0 (Nat.le_refl _) (Nat.zero_le _) (by simp)) ad l.length cap (flatS l) rfl HL.out (HN.out _) (oneCell_flatS l) (by unfold maxLen; omega) (by omega) (by simp) ?_)
    intro v' w1 hown hgrow hnil
    have HO := Lib.hid hown; clear hown
    have HG := Lib.hid hgrow; clear hgrow
    clear hnil
    go_wp2
    go_ret
    refine ⟨⟨v', rfl, ?_⟩, ?_⟩
    · exact HO.out
    · exact ((Below.refl _ w).alloc (Nat.le_refl _) _).grown HG.out (by simp) (by intro k hk; simp [Value.ownBlock] at hk; omega)

end Go.Proofs.Ytjknmnmilladlaa

/-
  Regions that draw their order and whose operations only read, and whose callees change nothing that was there (they may lay blocks): one walk in the order of the text serves every order.
-/
namespace Go.Proofs.Ytjknmnmilladlaa
open Go.RowKit

/-- A world that leaves all that lay in w as it was. -/
structure After (w : World) where
  wld : World
  prop : Below w.heap.size w wld

instance After.some (w : World) : Inhabited (After w) := ⟨⟨w, Below.refl _ _⟩⟩

theorem wp_region_quiet_after {P : Program} {id : Nat} {Q : Exit → Act → World → Prop} {a : Act} {w : World} {l : List Oper} (hm : P.follows .mixedOrders = true) (hB : Region.lexB .any l.toArray = true)
    (h : wpQuiet P l.toArray (fun w' => ∃ p : After w, w' = p.wld) (fun a' => ∀ w', (∃ p : After w, w' = p.wld) → Q .normal a' w') l a) : (Code.region id l.toArray true).wp P Q a w :=
  wp_region_quiet (C := fun w' => ∃ p : After w, w' = p.wld) hm hB ⟨⟨w.drew, (Below.refl _ _).drew⟩, rfl⟩ (by simpa using h)

theorem after_of {P : Program} {f : FuncId} {args : Array Value} {w : World} {p : After w} {v : Value}
    (h : Calls P f args p.wld fun e w' => e = .returned v ∧ Below p.wld.heap.size p.wld w') : Calls P f args p.wld fun e w'' => e = .returned v ∧ ∃ q : After w, w'' = q.wld :=
  h.mono fun _ w' ⟨he, hb⟩ => ⟨he, ⟨w', p.prop.trans (hb.mono p.prop.size)⟩, rfl⟩

theorem after_out {w w' : World} (h : ∃ p : After w, w' = p.wld) : Below w.heap.size w w' := by
  obtain ⟨p, rfl⟩ := h
  exact p.prop

theorem After.cell {w : World} {b o : Nat} {u : Option Value} (hb : b < w.heap.size) (h : w.cell? ⟨b, o, none⟩ = u) (p : After w) : p.wld.cell? ⟨b, o, none⟩ = u :=
  (p.prop.cell (p := ⟨b, o, none⟩) hb).trans h

/-- n steps A, F lie in block b from off on. -/
structure RowA (A F : Nat → Int) (b off n : Nat) (w : World) : Prop where
  lt : b < w.heap.size
  at_ : ∀ i, i < n → w.cell? ⟨b, off + i * 2, none⟩ = some (.int .i64 (A i))
  fr : ∀ i, i < n → w.cell? ⟨b, off + i * 2 + 1, none⟩ = some (.int .i64 (F i))

theorem RowA.below {A F : Nat → Int} {b off n : Nat} {w w' : World} {B : Nat} (h : RowA A F b off n w) (hB : Below B w w') (hb : b < B) : RowA A F b off n w' :=
  ⟨Nat.lt_of_lt_of_le h.lt hB.size, fun i hi => (hB.cell (p := ⟨b, _, none⟩) hb).trans (h.at_ i hi), fun i hi => (hB.cell (p := ⟨b, _, none⟩) hb).trans (h.fr i hi)⟩

/-- The cells to be appended, out of the block that was just laid. -/
theorem news_at (w : World) (H : Nat) (hH : w.heap.size = H) (cs : Array Value) (t : TypeId) : ∀ j u, cs.toList[j]? = some u → (w.alloc (.cells cs t)).cell? ((⟨H, 0, none⟩ : Addr).add j) = some u := by
  subst hH
  exact World.news_of_block (heap_alloc_new w _)

theorem news_kept {w w' : World} {row : Option Nat} (hg : w.grownBy w' row) (H : Nat) (hr : row ≠ some H) (news : List Value)
    (h : ∀ j u, news[j]? = some u → w.cell? ((⟨H, 0, none⟩ : Addr).add j) = some u) : ∀ j u, news[j]? = some u → w'.cell? ((⟨H, 0, none⟩ : Addr).add j) = some u := by
  intro j u hj
  have := h j u hj
  rw [Addr.add_lit] at this ⊢
  exact hg.cell this (Ne.symm hr)

end Go.Proofs.Ytjknmnmilladlaa

/-
  Walks: slices.SortStableFunc at steps whose times already rise: nothing is moved.
-/
namespace Go.Proofs.Ytjknmnmilladlaa
open Go.RowKit

set_option maxHeartbeats 400000 in
theorem tcmpGt (a f a' f' : Int) (h : a' < a) (w : World) :
    Calls Try.prog 83 #[.agg #[.int .i64 a, .int .i64 f], .agg #[.int .i64 a', .int .i64 f']] w fun e w' => e = .returned (.int .i64 1) ∧ Below w.heap.size w w' := by
  have h1 : decide (a < a') = false := by simp; omega
  go_enter Try.func83, Try.ntmps83
  go_wp2
  go_ret
  exact ⟨rfl, ((Below.refl _ _).alloc (Nat.le_refl _) _).alloc (by simp) _⟩

set_option maxHeartbeats 1000000 in
theorem insSorted (A F : Nat → Int) (b off cap n x y : Nat) (w : World) (hn : n ≤ 1000000) (hR : RowA A F b off n w) (hS : ∀ i j, i < j → j < n → A i < A j) (hx : x ≤ n) (hy : y ≤ n) :
    Calls Try.prog 108 #[.slice (some ⟨b, off, none⟩) n cap, .int .i64 x, .int .i64 y, .func (.func 83) #[] #[]] w fun e w' => e = .returned (.tuple #[]) ∧ Below w.heap.size w w' := by
  have HR := Lib.hid hR; clear hR
  have HS := Lib.hid hS; clear hS
  go_enter Try.func108, Try.ntmps108
  go_wp2_with fail
  go_loopw [8] (fun i wr => ∃ k : Nat, x < k ∧ k ≤ n + 1 ∧ i = .int .i64 k ∧ Below w.heap.size w wr) (fun i _ => n + 2 - (intOf i).toNat)
  case atStart => exact ⟨x + 1, by omega, by omega, by go_num, Below.refl _ _⟩
  case round =>
    obtain ⟨k, hxk, hkn, rfl, hb⟩ := hrel
    by_cases hky : k < y
    · obtain ⟨q, rfl⟩ : ∃ q, k = q + 1 := ⟨k - 1, by omega⟩
      have hR := HR.out.below hb HR.out.lt
      have hbw := hR.lt
      have hlt := HS.out q (q + 1) (by omega) (by omega)
      have c1 := After.cell hbw (hR.at_ (q + 1) (by omega))
      have c2 := After.cell hbw (hR.fr (q + 1) (by omega))
      have c3 := After.cell hbw (hR.at_ q (by omega))
      have c4 := After.cell hbw (hR.fr q (by omega))
      clear hR
      have hd1 : decide ((x : Int) < (q : Int) + 1) = true := by simp; omega
      have HB := Lib.hid hb; clear hb
      go_wp2_with fail
      refine wp_loop_once ?_
      go_wp2_with fail
      refine wp_region_quiet_after (by kernel_rfl) (by kernel_rfl) ?_
      repeat (go_big_quiet_step ((go_at_call 83; exact after_of (tcmpGt _ _ _ _ hlt _))))
      refine wpQuiet_nil ?_
      intro wq hC
      have hwq := after_out hC
      clear hC
      have HQ := Lib.hid hwq; clear hwq
      go_wp2_with fail
      go_roundw
      case rel => exact ⟨q + 1 + 1, by omega, by omega, by go_num, HB.out.trans (HQ.out.mono HB.out.size)⟩
      case measure => simp [intOf]; omega
    · have HB := Lib.hid hb; clear hb
      go_wp2_with fail
      go_end0
      exact ⟨rfl, HB.out⟩

def SymC (b off cap n : Nat) (x m y : Nat) (w : World) : Prop :=
  Calls Try.prog 109 #[.slice (some ⟨b, off, none⟩) n cap, .int .i64 x, .int .i64 m, .int .i64 y, .func (.func 83) #[] #[]] w fun e w' => e = .returned (.tuple #[]) ∧ Below w.heap.size w w'

set_option maxHeartbeats 4000000 in
set_option maxRecDepth 100000 in
/-- one element ahead of m -/
theorem symOneA (A F : Nat → Int) (b off cap n x m y : Nat) (w : World) (hn : n ≤ 1000000) (hR : RowA A F b off n w) (hS : ∀ i j, i < j → j < n → A i < A j) (hxm : m = x + 1) (hmy : m < y) (hy : y ≤ n) : SymC b off cap n x m y w := by
  unfold SymC
  have HR := Lib.hid hR; clear hR
  have HS := Lib.hid hS; clear hS
  have e1 : ((m : Int) - (x : Int) == 1) = true := by simp; omega
  have e2 : decide ((x : Int) < (m : Int) - 1) = false := by simp; omega
  have hx1 : x < m := by omega
  have HXM := Lib.hid hxm; clear hxm
  go_enter Try.func109, Try.ntmps109
  go_wp2_with fail
  go_loopw [10, 11] (fun i j wr => ∃ z : Nat, m ≤ z ∧ z ≤ y ∧ i = .int .i64 m ∧ j = .int .i64 z ∧ Below w.heap.size w wr) (fun _ j _ => (intOf j).toNat)
  case atStart => exact ⟨y, by omega, by omega, rfl, rfl, Below.refl _ _⟩
  case round =>
    obtain ⟨z, hmz, hzy, rfl, rfl, hb⟩ := hrel
    by_cases hlt : m < z
    · have hR := HR.out.below hb HR.out.lt
      have hbw := hR.lt
      obtain ⟨h, hh⟩ : ∃ h, h = (m + z) / 2 := ⟨_, rfl⟩
      have hh1 : m ≤ h := by omega
      have hh2 : h < z := by omega
      have hA := HS.out x h (by omega) (by omega)
      have c1 := After.cell hbw (hR.at_ h (by omega))
      have c2 := After.cell hbw (hR.fr h (by omega))
      have c3 := After.cell hbw (hR.at_ x (by omega))
      have c4 := After.cell hbw (hR.fr x (by omega))
      have hxn : (x : Int) < n := by omega
      have hhn : (h : Int) < n := by omega
      clear hR
      have HB := Lib.hid hb; clear hb
      have eh : ((m : Int) + z) / 2 = (h : Int) := by omega
      clear hh
      go_wp2_with fail
      refine wp_region_quiet_after (by kernel_rfl) (by kernel_rfl) ?_
      repeat (go_big_quiet_step ((go_at_call 83; exact after_of (tcmpGt _ _ _ _ hA _))))
      refine wpQuiet_nil ?_
      intro wq hC
      have hwq := after_out hC
      clear hC
      have HQ := Lib.hid hwq; clear hwq
      go_wp2_with fail
      go_roundw
      case rel => exact ⟨h, by omega, by omega, rfl, rfl, HB.out.trans (HQ.out.mono HB.out.size)⟩
      case measure => simp [intOf]; omega
    · have HB := Lib.hid hb; clear hb
      go_wp2_with fail
      refine wp_loop_once ?_
      go_wp2_with fail
      refine bodyPost_ret (results_none rfl _ _ _) rfl ?_
      exact ⟨rfl, HB.out⟩

set_option maxHeartbeats 4000000 in
set_option maxRecDepth 100000 in
/-- one element from m on -/
theorem symOneB (A F : Nat → Int) (b off cap n x m y : Nat) (w : World) (hn : n ≤ 1000000) (hR : RowA A F b off n w) (hS : ∀ i j, i < j → j < n → A i < A j) (hxm : x + 1 < m) (hmy : y = m + 1) (hy : y ≤ n) : SymC b off cap n x m y w := by
  unfold SymC
  have HR := Lib.hid hR; clear hR
  have HS := Lib.hid hS; clear hS
  have e1 : ((m : Int) - (x : Int) == 1) = false := by simp; omega
  have e2 : ((y : Int) - (m : Int) == 1) = true := by simp; omega
  have hmn : m < n := by omega
  have HMY := Lib.hid hmy; clear hmy
  go_enter Try.func109, Try.ntmps109
  go_wp2_with fail
  go_loopw [14, 15] (fun i j wr => ∃ z : Nat, x ≤ z ∧ z ≤ m ∧ i = .int .i64 z ∧ j = .int .i64 m ∧ Below w.heap.size w wr) (fun i _ _ => m - (intOf i).toNat)
  case atStart => exact ⟨x, by omega, by omega, rfl, rfl, Below.refl _ _⟩
  case round =>
    obtain ⟨z, hmz, hzy, rfl, rfl, hb⟩ := hrel
    by_cases hlt : z < m
    · have hR := HR.out.below hb HR.out.lt
      have hbw := hR.lt
      obtain ⟨h, hh⟩ : ∃ h, h = (z + m) / 2 := ⟨_, rfl⟩
      have hh1 : z ≤ h := by omega
      have hh2 : h < m := by omega
      have hA := HS.out h m (by omega) (by omega)
      have c1 := After.cell hbw (hR.at_ h (by omega))
      have c2 := After.cell hbw (hR.fr h (by omega))
      have c3 := After.cell hbw (hR.at_ m (by omega))
      have c4 := After.cell hbw (hR.fr m (by omega))
      have hxn : (m : Int) < n := by omega
      have hhn : (h : Int) < n := by omega
      clear hR
      have HB := Lib.hid hb; clear hb
      have eh : ((z : Int) + m) / 2 = (h : Int) := by omega
      clear hh
      go_wp2_with fail
      refine wp_region_quiet_after (by kernel_rfl) (by kernel_rfl) ?_
      repeat (go_big_quiet_step ((go_at_call 83; exact after_of (tcmpGt _ _ _ _ hA _))))
      refine wpQuiet_nil ?_
      intro wq hC
      have hwq := after_out hC
      clear hC
      have HQ := Lib.hid hwq; clear hwq
      go_wp2_with fail
      go_roundw
      case rel => exact ⟨h + 1, by omega, by omega, by go_num, rfl, HB.out.trans (HQ.out.mono HB.out.size)⟩
      case measure => simp [intOf]; omega
    · obtain rfl : z = m := by omega
      have HB := Lib.hid hb; clear hb
      go_wp2_with fail
      refine wp_loop_once ?_
      go_wp2_with fail
      refine bodyPost_ret (results_none rfl _ _ _) rfl ?_
      exact ⟨rfl, HB.out⟩

set_option maxHeartbeats 8000000 in
set_option maxRecDepth 100000 in
/-- two elements and more on either side: it comes to itself, or is done -/
theorem symAny (A F : Nat → Int) (b off cap n : Nat) (hn : n ≤ 1000000) (hS : ∀ i j, i < j → j < n → A i < A j) :
    ∀ (N x m y : Nat) (w : World), y - x ≤ N → RowA A F b off n w → x < m → m < y → y ≤ n → SymC b off cap n x m y w := by
  intro N
  induction N with
  | zero => intro x m y w h1 _ h2 h3; omega
  | succ N ih =>
    intro x m y w hN hR hxm hmy hy
    by_cases h1 : m = x + 1
    · exact symOneA A F b off cap n x m y w hn hR hS h1 hmy hy
    by_cases h2 : y = m + 1
    · exact symOneB A F b off cap n x m y w hn hR hS (by omega) h2 hy
    unfold SymC
    have IH := Lib.hid ih; clear ih
    have HR := Lib.hid hR; clear hR
    have HS := Lib.hid hS; clear hS
    have e1 : ((m : Int) - (x : Int) == 1) = false := by simp; omega
    have e2 : ((y : Int) - (m : Int) == 1) = false := by simp; omega
    obtain ⟨mid, hmid⟩ : ∃ mid, mid = (x + y) / 2 := ⟨_, rfl⟩
    have hm1 : x + 2 ≤ mid := by omega
    have hm2 : mid + 2 ≤ y := by omega
    have hm3 : 2 * mid ≤ x + y := by omega
    have hm4 : x + y ≤ 2 * mid + 1 := by omega
    have emid : ((x : Int) + y) / 2 = (mid : Int) := by omega
    clear h1 h2 hmid
    by_cases hc : mid < m
    · have hd1 : decide ((mid : Int) < m) = true := by simp; omega
      obtain ⟨s0, hs0⟩ : ∃ s0, s0 + y = mid + m := ⟨mid + m - y, by omega⟩
      have hs1 : x ≤ s0 := by omega
      have hs2 : s0 ≤ mid := by omega
      have es0 : (mid : Int) + m - y = (s0 : Int) := by omega
      have HS0 := Lib.hid hs0; clear hs0
      go_enter Try.func109, Try.ntmps109
      go_wp2_with fail
      go_loopw [20, 21] (fun i j wr => ∃ z : Nat, s0 ≤ z ∧ z ≤ mid ∧ i = .int .i64 z ∧ j = .int .i64 mid ∧ Below w.heap.size w wr) (fun i _ _ => mid - (intOf i).toNat)
      case atStart => exact ⟨s0, by omega, by omega, rfl, rfl, Below.refl _ _⟩
      case round =>
        obtain ⟨z, hmz, hzy, rfl, rfl, hb⟩ := hrel
        by_cases hlt : z < mid
        · have hR := HR.out.below hb HR.out.lt
          have hbw := hR.lt
          obtain ⟨h, hh⟩ : ∃ h, h = (z + mid) / 2 := ⟨_, rfl⟩
          have hh1 : z ≤ h := by omega
          have hh2 : h < mid := by omega
          obtain ⟨d, hd⟩ : ∃ d, d + h + 1 = mid + m := ⟨mid + m - 1 - h, by omega⟩
          have hs0' := HS0.out
          have hdn : d < n := by omega
          have hA := HS.out h d (by omega) hdn
          have c1 := After.cell hbw (hR.at_ h (by omega))
          have c2 := After.cell hbw (hR.fr h (by omega))
          have c3 := After.cell hbw (hR.at_ d hdn)
          have c4 := After.cell hbw (hR.fr d hdn)
          have hxn : (d : Int) < n := by omega
          have hhn : (h : Int) < n := by omega
          clear hR hs0'
          have HB := Lib.hid hb; clear hb
          have eh : ((z : Int) + mid) / 2 = (h : Int) := by omega
          have ed : (mid : Int) + m - 1 - h = (d : Int) := by omega
          have HD := Lib.hid hd; clear hh hd
          go_wp2_with fail
          refine wp_region_quiet_after (by kernel_rfl) (by kernel_rfl) ?_
          repeat (go_big_quiet_step ((go_at_call 83; exact after_of (tcmpGt _ _ _ _ hA _))))
          refine wpQuiet_nil ?_
          intro wq hC
          have hwq := after_out hC
          clear hC
          have HQ := Lib.hid hwq; clear hwq
          go_wp2_with fail
          go_roundw
          case rel => exact ⟨h + 1, by omega, by omega, by go_num, rfl, HB.out.trans (HQ.out.mono HB.out.size)⟩
          case measure => simp [intOf]; omega
        · obtain rfl : z = mid := by omega
          have hR := HR.out.below hb HR.out.lt
          have HI := Lib.hid (IH.out z m y wr (by omega) hR (by omega) hmy hy)
          clear hR
          have HB := Lib.hid hb; clear hb
          have ez : (z : Int) + m - z = (m : Int) := by omega
          have hd2 : decide ((m : Int) < m) = false := by simp
          have hd3 : decide ((x : Int) < z) = true := by simp; omega
          have hd4 : decide ((z : Int) < z) = false := by simp
          have hd5 : decide ((m : Int) < y) = true := by simp; omega
          go_wp2_with fail
          refine (HI.out).mono ?_
          rintro e w1 ⟨rfl, hb1⟩
          have HB1 := Lib.hid hb1; clear hb1
          go_wp2_with fail
          go_end0
          exact ⟨rfl, HB.out.trans (HB1.out.mono HB.out.size)⟩
    · have hd1 : decide ((mid : Int) < m) = false := by simp; omega
      go_enter Try.func109, Try.ntmps109
      go_wp2_with fail
      go_loopw [20, 21] (fun i j wr => ∃ z : Nat, x ≤ z ∧ z ≤ m ∧ i = .int .i64 z ∧ j = .int .i64 m ∧ Below w.heap.size w wr) (fun i _ _ => m - (intOf i).toNat)
      case atStart => exact ⟨x, by omega, by omega, rfl, rfl, Below.refl _ _⟩
      case round =>
        obtain ⟨z, hmz, hzy, rfl, rfl, hb⟩ := hrel
        by_cases hlt : z < m
        · have hR := HR.out.below hb HR.out.lt
          have hbw := hR.lt
          obtain ⟨h, hh⟩ : ∃ h, h = (z + m) / 2 := ⟨_, rfl⟩
          have hh1 : z ≤ h := by omega
          have hh2 : h < m := by omega
          obtain ⟨d, hd⟩ : ∃ d, d + h + 1 = mid + m := ⟨mid + m - 1 - h, by omega⟩
          have hdn : d < n := by omega
          have hA := HS.out h d (by omega) hdn
          have c1 := After.cell hbw (hR.at_ h (by omega))
          have c2 := After.cell hbw (hR.fr h (by omega))
          have c3 := After.cell hbw (hR.at_ d hdn)
          have c4 := After.cell hbw (hR.fr d hdn)
          have hxn : (d : Int) < n := by omega
          have hhn : (h : Int) < n := by omega
          clear hR
          have HB := Lib.hid hb; clear hb
          have eh : ((z : Int) + m) / 2 = (h : Int) := by omega
          have ed : (mid : Int) + m - 1 - h = (d : Int) := by omega
          have HD := Lib.hid hd; clear hh hd
          go_wp2_with fail
          refine wp_region_quiet_after (by kernel_rfl) (by kernel_rfl) ?_
          repeat (go_big_quiet_step ((go_at_call 83; exact after_of (tcmpGt _ _ _ _ hA _))))
          refine wpQuiet_nil ?_
          intro wq hC
          have hwq := after_out hC
          clear hC
          have HQ := Lib.hid hwq; clear hwq
          go_wp2_with fail
          go_roundw
          case rel => exact ⟨h + 1, by omega, by omega, by go_num, rfl, HB.out.trans (HQ.out.mono HB.out.size)⟩
          case measure => simp [intOf]; omega
        · obtain rfl : z = m := by omega
          have hR := HR.out.below hb HR.out.lt
          have ez : (mid : Int) + z - z = (mid : Int) := by omega
          have hd2 : decide ((z : Int) < z) = false := by simp
          have hd3 : decide ((x : Int) < z) = true := by simp; omega
          have hd4 : decide ((mid : Int) < mid) = false := by simp
          by_cases hlast : z < mid
          · have HI := Lib.hid (IH.out x z mid wr (by omega) hR hxm hlast (by omega))
            have hd5 : decide ((z : Int) < mid) = true := by simp; omega
            clear hR
            have HB := Lib.hid hb; clear hb
            go_wp2_with fail
            refine (HI.out).mono ?_
            rintro e w1 ⟨rfl, hb1⟩
            have HB1 := Lib.hid hb1; clear hb1
            go_wp2_with fail
            go_end0
            exact ⟨rfl, HB.out.trans (HB1.out.mono HB.out.size)⟩
          · have hd5 : decide ((z : Int) < mid) = false := by simp; omega
            clear hR
            have HB := Lib.hid hb; clear hb
            go_wp2_with fail
            go_end0
            exact ⟨rfl, HB.out⟩

end Go.Proofs.Ytjknmnmilladlaa

/-
  Walks: slices.SortStableFunc at steps whose times already rise (the whole of it), and steps.Tidy of such steps.
-/
namespace Go.Proofs.Ytjknmnmilladlaa
open Go.RowKit

set_option maxHeartbeats 4000000 in
set_option maxRecDepth 100000 in
theorem stableSorted (A F : Nat → Int) (b off cap n : Nat) (w : World) (hn : n ≤ 1000000) (hR : RowA A F b off n w) (hS : ∀ i j, i < j → j < n → A i < A j) :
    Calls Try.prog 102 #[.slice (some ⟨b, off, none⟩) n cap, .int .i64 n, .func (.func 83) #[] #[]] w fun e w' => e = .returned (.tuple #[]) ∧ Below w.heap.size w w' := by
  have HR := Lib.hid hR; clear hR
  have HS := Lib.hid hS; clear hS
  go_enter Try.func102, Try.ntmps102
  go_wp2_with fail
  go_loopw [7, 8] (fun a c wr => ∃ x : Nat, x ≤ n ∧ a = .int .i64 x ∧ c = .int .i64 (x + 20 : Nat) ∧ Below w.heap.size w wr) (fun a _ _ => n + 1 - (intOf a).toNat)
  case atStart => exact ⟨0, by omega, rfl, rfl, Below.refl _ _⟩
  case round =>
    obtain ⟨x, hx, rfl, rfl, hb⟩ := hrel
    by_cases hlt : x + 20 ≤ n
    · have hR := HR.out.below hb HR.out.lt
      have HI := Lib.hid (insSorted A F b off cap n x (x + 20) wr hn hR HS.out (by omega) hlt)
      clear hR
      have HB := Lib.hid hb; clear hb
      go_wp2_with fail
      refine (HI.out).mono ?_
      rintro e w1 ⟨rfl, hb1⟩
      have HB1 := Lib.hid hb1; clear hb1
      go_wp2_with fail
      go_roundw
      case rel => exact ⟨x + 20, by omega, by go_num, by go_num, HB.out.trans (HB1.out.mono HB.out.size)⟩
      case measure => simp [intOf]; omega
    · have hR := HR.out.below hb HR.out.lt
      have HI := Lib.hid (insSorted A F b off cap n x n wr hn hR HS.out hx (Nat.le_refl _))
      clear hR
      have HB := Lib.hid hb; clear hb
      go_wp2_with fail
      refine (HI.out).mono ?_
      rintro e w1 ⟨rfl, hb1⟩
      have hB1 := HB.out.trans (hb1.mono HB.out.size)
      have HB1 := Lib.hid hB1; clear hb1 hB1
      go_wp2_with fail
      go_loopw [6] (fun s wr => ∃ bs : Nat, 0 < bs ∧ bs ≤ 2 * n + 20 ∧ s = .int .i64 bs ∧ Below w.heap.size w wr) (fun s _ => 2 * n + 21 - (intOf s).toNat)
      case atStart => exact ⟨20, by omega, by omega, rfl, HB1.out⟩
      case round =>
        obtain ⟨bs, hbs, hbs2, rfl, hb⟩ := hrel
        by_cases hl2 : bs < n
        · have HB := Lib.hid hb; clear hb
          go_wp2_with fail
          obtain ⟨wo, hwo⟩ : ∃ wo : World, wo = wr := ⟨_, rfl⟩
          subst hwo
          go_loopw [7, 8] (fun a c wr => ∃ z : Nat, z ≤ n ∧ a = .int .i64 z ∧ c = .int .i64 (z + 2 * bs : Nat) ∧ Below w.heap.size w wr) (fun a _ _ => n + 1 - (intOf a).toNat)
          case atStart => exact ⟨0, by omega, rfl, by go_num, HB.out⟩
          case round =>
            obtain ⟨z, hz, rfl, rfl, hb⟩ := hrel
            by_cases hl3 : z + 2 * bs ≤ n
            · have hR := HR.out.below hb HR.out.lt
              have HI := Lib.hid (symAny A F b off cap n hn HS.out (2 * bs) z (z + bs) (z + 2 * bs) wr (by omega) hR (by omega) (by omega) hl3)
              clear hR
              have HB := Lib.hid hb; clear hb
              go_wp2_with fail
              refine (HI.out).mono ?_
              rintro e w1 ⟨rfl, hb1⟩
              have HB1 := Lib.hid hb1; clear hb1
              go_wp2_with fail
              go_roundw
              case rel => exact ⟨z + 2 * bs, by omega, by go_num, by go_num, HB.out.trans (HB1.out.mono HB.out.size)⟩
              case measure => simp [intOf]; omega
            · by_cases hl4 : z + bs < n
              · have hR := HR.out.below hb HR.out.lt
                have HI := Lib.hid (symAny A F b off cap n hn HS.out n z (z + bs) n wr (by omega) hR (by omega) hl4 (Nat.le_refl _))
                clear hR
                have HB := Lib.hid hb; clear hb
                go_wp2_with fail
                refine (HI.out).mono ?_
                rintro e w1 ⟨rfl, hb1⟩
                have HB1 := Lib.hid hb1; clear hb1
                go_wp2_with fail
                go_roundw
                case rel => exact ⟨bs * 2, by omega, by omega, by go_num, HB.out.trans (HB1.out.mono HB.out.size)⟩
                case measure => simp [intOf]; omega
              · have HB := Lib.hid hb; clear hb
                go_wp2_with fail
                go_roundw
                case rel => exact ⟨bs * 2, by omega, by omega, by go_num, HB.out⟩
                case measure => simp [intOf]; omega
        · have HB := Lib.hid hb; clear hb
          go_wp2_with fail
          go_end0
          exact ⟨rfl, HB.out⟩

set_option maxHeartbeats 1000000 in
theorem sortStableSorted (A F : Nat → Int) (b off cap n : Nat) (w : World) (hn : n ≤ 1000000) (hR : RowA A F b off n w) (hS : ∀ i j, i < j → j < n → A i < A j) :
    Calls Try.prog 82 #[.slice (some ⟨b, off, none⟩) n cap, .func (.func 83) #[] #[]] w fun e w' => e = .returned (.tuple #[]) ∧ Below w.heap.size w w' := by
  have HI := Lib.hid (stableSorted A F b off cap n w hn hR hS)
  clear hR hS
  go_enter Try.func82, Try.ntmps82
  go_wp2_with fail
  refine (HI.out).mono ?_
  rintro e w1 ⟨rfl, hb1⟩
  go_wp2_with fail
  go_end0
  exact ⟨rfl, hb1⟩

end Go.Proofs.Ytjknmnmilladlaa

/-
  Plain facts on Tidy: steps that say nothing new are left out. No program here.
-/
namespace Go.Proofs.Ytjknmnmilladlaa

def lastFree (out : List Step) : Int := frv out (out.length - 1)
def tidyStep (out : List Step) (s : Step) : List Step := if 0 < out.length ∧ lastFree out = s.free then out else out ++ [s]
def tidyN (l : List Step) (k : Nat) : List Step := (l.take k).foldl tidyStep []
def tidy (l : List Step) : List Step := l.foldl tidyStep []

theorem tidyN_zero (l : List Step) : tidyN l 0 = [] := rfl
theorem tidyN_all (l : List Step) : tidyN l l.length = tidy l := by simp [tidyN, tidy]
theorem stepAt (l : List Step) (k : Nat) (h : k < l.length) : l[k] = ⟨atv l k, frv l k⟩ := by simp [atv, frv, h]
theorem tidyN_succ (l : List Step) (k : Nat) (h : k < l.length) : tidyN l (k + 1) = tidyStep (tidyN l k) ⟨atv l k, frv l k⟩ := by
  unfold tidyN
  rw [List.take_succ_eq_append_getElem h, List.foldl_append, ← stepAt l k h]
  rfl
theorem length_tidyN (l : List Step) (k : Nat) : (tidyN l k).length ≤ k := by
  induction k with
  | zero => simp [tidyN]
  | succ k ih =>
    by_cases h : k < l.length
    · rw [tidyN_succ l k h]
      unfold tidyStep
      split
      · omega
      · simp; omega
    · have : tidyN l (k + 1) = tidyN l k := by
        unfold tidyN
        rw [List.take_of_length_le (by omega), List.take_of_length_le (by omega)]
      rw [this]; omega

end Go.Proofs.Ytjknmnmilladlaa

/-
  Walks: steps.Tidy of steps whose times rise.
-/
namespace Go.Proofs.Ytjknmnmilladlaa
open Go.RowKit

theorem IsSteps.rowA {w : World} {v : Value} {l : List Step} (h : IsSteps w v l) (hn : 0 < l.length) :
    ∃ b off cap, v = .slice (some ⟨b, off, none⟩) l.length cap ∧ l.length ≤ cap ∧ cap ≤ 9223372036854775807 ∧ RowA (atv l) (frv l) b off l.length w := by
  obtain ⟨b, off, cap, rfl, h1, h2, hb, hA, hF, _⟩ := h.cells hn
  unfold maxLen at h2
  exact ⟨b, off, cap, rfl, h1, by omega, hb, hA, hF⟩

def TidyPost (l : List Step) (w : World) (e : Ending) (w' : World) : Prop := (∃ v, e = .returned v ∧ OwnSteps w' w.heap.size v (tidy l)) ∧ Below w.heap.size w w'

set_option maxHeartbeats 2000000 in
set_option maxRecDepth 100000 in
theorem tidyAny {w : World} {v : Value} {l : List Step} (h : IsSteps w v l) (hl0 : 0 < l.length) (hl : l.length ≤ 40000) (hS : ∀ i j, i < j → j < l.length → atv l i < atv l j) :
    Calls Try.prog 63 #[v] w (TidyPost l w) := by
  have HC := Lib.hid (cloneAny h hl)
  clear h
  have HS := Lib.hid hS; clear hS
  obtain ⟨i0, hi, hz0, hz1, hz2⟩ := info_parts Try.info38
  go_enter Try.func63, Try.ntmps63
  go_wp2_with fail
  go_step3
  go_wp2_with fail
  refine (HC.out).mono ?_
  rintro e w1 ⟨⟨v1, rfl, hown⟩, hb1⟩
  obtain ⟨b, off, cap, rfl, hnc, hcap, hR⟩ := hown.is.rowA hl0
  clear hown HC
  have HI := Lib.hid (sortStableSorted (atv l) (frv l) b off cap l.length w1 (by omega) hR HS.out)
  generalize hn : l.length = n at *
  have HN := Lib.hid hn; clear hn
  go_wp2_with fail
  refine (HI.out).mono ?_
  rintro e w2 ⟨rfl, hb2⟩
  have hR2 := hR.below hb2 hR.lt
  have hb12 := hb1.trans (hb2.mono hb1.size)
  have HR := Lib.hid hR2
  have hbw2 := hR2.lt
  clear hR2 hR HI hb1 hb2
  have hw2 := hb12.size
  have HBW := Lib.hid hb12; clear hb12
  go_wp2_with fail
  go_step3
  go_wp2_with fail
  go_loopw [4, 14] (fun o i wr => ∃ k : Nat, k ≤ n ∧ i = .int .i64 k ∧ Below w2.heap.size w2 wr ∧ OwnSteps wr w2.heap.size o (tidyN l k)) (fun _ i _ => n - (intOf i).toNat)
  case atStart => exact ⟨0, by omega, rfl, Below.refl _ _, World.ownsRow_nil _ _ _ _⟩
  case round =>
    obtain ⟨k, hk, rfl, hb, hown⟩ := hrel
    have HOWN := Lib.hid hown; clear hown
    by_cases hkn : k < n
    · have hR := HR.out.below hb hbw2
      have hbw := hR.lt
      have hwr := hb.size
      obtain ⟨ak, hak⟩ : ∃ am, am = atv l k := ⟨_, rfl⟩
      obtain ⟨fk, hfk⟩ : ∃ fm, fm = frv l k := ⟨_, rfl⟩
      have c1 := hR.at_ k hkn
      have c2 := hR.fr k hkn
      rw [← hak] at c1
      rw [← hfk] at c2
      have HB := Lib.hid hb; clear hb
      have hts := tidyN_succ l k (by rw [HN.out]; exact hkn)
      have hln := length_tidyN l k
      rw [← hak, ← hfk] at hts
      have HTS := Lib.hid hts; clear hts
      have hkk : (k : Int) < n := by omega
      generalize htk : tidyN l k = o at *
      by_cases hlast : k + 1 < n
      · have hn1 : (k : Int) + 1 < n := by omega
        obtain ⟨a1, ha1⟩ : ∃ am, am = atv l (k + 1) := ⟨_, rfl⟩
        obtain ⟨f1, hf1⟩ : ∃ am, am = frv l (k + 1) := ⟨_, rfl⟩
        have c3 := hR.at_ (k + 1) hlast
        have c4 := hR.fr (k + 1) hlast
        rw [← ha1] at c3
        rw [← hf1] at c4
        have hrise := HS.out k (k + 1) (by omega) hlast
        rw [← hak, ← ha1] at hrise
        have hne : (a1 == ak) = false := by simp; omega
        have hd1 : decide ((k : Int) + 1 < n) = true := by simp; omega
        clear hak hfk ha1 hf1 hR hrise
        by_cases ho : o.length = 0
        · obtain rfl : o = [] := List.eq_nil_of_length_eq_zero ho
          obtain ⟨ao, c0, hv0, hc0, hc1⟩ := (IsRow.of_owns HOWN.out).shape
          have hv0' : u4 = .slice ao 0 c0 := hv0
          subst hv0'
          have hlz : ([] : List Step).length + 1 ≤ 40000 := by simp
          clear hv0 hc0 ho
          go_wp2_with fail
          go_quiet (fail)
          go_wp2_with fail
          go_quiet (fail)
          go_wp2_with (at_builtin; refine wpList_append_own _ rfl (.tmp 50) (.tmp 52) 33 rfl w2.heap.size 38 i0 _ 2 16 Try.underlying33 hi hz0 hz1 hz2 rfl (by decide) _ _ _ rfl (by exact (HOWN.out.alloc _).alloc _) ⟨wr.heap.size + 1, 0, none⟩ 1 1 [.int .i64 ak, .int .i64 fk] rfl rfl (news_at _ _ (by simp) #[.int .i64 ak, .int .i64 fk] 38) (by simp [Value.oneCell']) (by unfold maxLen; omega) (by omega) (by simp; omega) ?_)
          intro v' w3 hown3 hgrow hnil
          have HO3 := Lib.hid hown3; clear hown3 hnil
          have HG := Lib.hid hgrow; clear hgrow
          go_wp2_with fail
          go_roundw
          case rel =>
            have hB3 : Below w2.heap.size w2 w3 := ((below_drewN (HB.out.alloc hwr _) _).alloc (by simp; omega) _).grown HG.out (by simp; omega) (fun g hg => ((World.ownsRow.lt HOWN.out) g hg).1)
            refine ⟨k + 1, by omega, by go_num, hB3, ?_⟩
            rw [HTS.out, show tidyStep [] ⟨ak, fk⟩ = [] ++ [⟨ak, fk⟩] from rfl]
            unfold OwnSteps
            rw [flatS_append, List.length_append]
            exact HO3.out
          case measure => simp [intOf]; omega
        · obtain ⟨g, off2, cap2, rfl, hc0, hc1, hgb, hgA, hgF, hgR⟩ := (OwnSteps.is HOWN.out).cells (by omega)
          unfold maxLen at hc1
          obtain ⟨q, hq⟩ : ∃ q, o.length = q + 1 := ⟨o.length - 1, by omega⟩
          obtain ⟨lf, hlf⟩ : ∃ lf, lf = lastFree o := ⟨_, rfl⟩
          have c5 := hgF q (by omega)
          rw [show frv o q = lf by rw [hlf]; unfold lastFree; rw [hq]; rfl] at c5
          have HQ := Lib.hid hq
          rw [hq] at hc0
          have hm1 : ((q : Int) + 1 == 0) = false := by simp; omega
          have hqb : q ≤ 40000 := by omega
          clear hgA hgF hgR ho
          have hon := HOWN.out
          unfold OwnSteps at hon
          rw [hq] at hon
          have HON := Lib.hid hon
          clear hon
          rw [hq]
          clear hq
          have hqp : 0 < o.length := by rw [HQ.out]; omega
          by_cases hdup : lf = fk
          · have hdd : (lf != fk) = false := by simp [hdup]
            have hss : tidyStep o ⟨ak, fk⟩ = o := by unfold tidyStep; exact if_pos ⟨hqp, by rw [← hlf]; exact hdup⟩
            have HSS := Lib.hid hss; clear hss hdup hlf hqp
            go_wp2_with fail
            go_quiet (fail)
            go_wp2_with fail
            go_quiet (fail)
            go_wp2_with fail
            go_roundw
            case rel =>
              refine ⟨k + 1, by omega, by go_num, below_drewN (HB.out.alloc hwr _) _, ?_⟩
              rw [HTS.out, HSS.out]
              have := HON.out
              unfold OwnSteps
              rw [HQ.out]
              exact this.alloc _
            case measure => simp [intOf]; omega
          · have hdd : (lf != fk) = true := by simp [hdup]
            have hss : tidyStep o ⟨ak, fk⟩ = o ++ [⟨ak, fk⟩] := by unfold tidyStep; exact if_neg (fun h => hdup (by rw [hlf]; exact h.2))
            have HSS := Lib.hid hss; clear hss hdup hlf hqp
            go_wp2_with fail
            go_quiet (fail)
            go_wp2_with fail
            go_quiet (fail)
            go_wp2_with (at_builtin; refine wpList_append_own _ rfl (.tmp 50) (.tmp 52) 33 rfl w2.heap.size 38 i0 _ 2 16 Try.underlying33 hi hz0 hz1 hz2 rfl (by decide) _ _ _ rfl (by exact (HON.out.alloc _).alloc _) ⟨wr.heap.size + 1, 0, none⟩ 1 1 [.int .i64 ak, .int .i64 fk] rfl rfl (news_at _ _ (by simp) #[.int .i64 ak, .int .i64 fk] 38) (by simp [Value.oneCell']) (by unfold maxLen; omega) (by omega) (by simp; omega) ?_)
            intro v' w3 hown3 hgrow hnil
            have HO3 := Lib.hid hown3; clear hown3 hnil
            have HG := Lib.hid hgrow; clear hgrow
            go_wp2_with fail
            go_roundw
            case rel =>
              have hB3 : Below w2.heap.size w2 w3 := ((below_drewN (HB.out.alloc hwr _) _).alloc (by simp; omega) _).grown HG.out (by simp; omega) (fun g hg => ((World.ownsRow.lt HOWN.out) g hg).1)
              refine ⟨k + 1, by omega, by go_num, hB3, ?_⟩
              rw [HTS.out, HSS.out]
              unfold OwnSteps
              rw [flatS_append, List.length_append, HQ.out]
              exact HO3.out
            case measure => simp [intOf]; omega
      · have hd1 : decide ((k : Int) + 1 < n) = false := by simp; omega
        clear hak hfk hR
        by_cases ho : o.length = 0
        · obtain rfl : o = [] := List.eq_nil_of_length_eq_zero ho
          obtain ⟨ao, c0, hv0, hc0, hc1⟩ := (IsRow.of_owns HOWN.out).shape
          have hv0' : u4 = .slice ao 0 c0 := hv0
          subst hv0'
          have hlz : ([] : List Step).length + 1 ≤ 40000 := by simp
          clear hv0 hc0 ho
          go_wp2_with fail
          go_quiet (fail)
          go_wp2_with fail
          go_quiet (fail)
          go_wp2_with (at_builtin; refine wpList_append_own _ rfl (.tmp 50) (.tmp 52) 33 rfl w2.heap.size 38 i0 _ 2 16 Try.underlying33 hi hz0 hz1 hz2 rfl (by decide) _ _ _ rfl (by exact (HOWN.out.alloc _).alloc _) ⟨wr.heap.size + 1, 0, none⟩ 1 1 [.int .i64 ak, .int .i64 fk] rfl rfl (news_at _ _ (by simp) #[.int .i64 ak, .int .i64 fk] 38) (by simp [Value.oneCell']) (by unfold maxLen; omega) (by omega) (by simp; omega) ?_)
          intro v' w3 hown3 hgrow hnil
          have HO3 := Lib.hid hown3; clear hown3 hnil
          have HG := Lib.hid hgrow; clear hgrow
          go_wp2_with fail
          go_roundw
          case rel =>
            have hB3 : Below w2.heap.size w2 w3 := ((below_drewN (HB.out.alloc hwr _) _).alloc (by simp; omega) _).grown HG.out (by simp; omega) (fun g hg => ((World.ownsRow.lt HOWN.out) g hg).1)
            refine ⟨k + 1, by omega, by go_num, hB3, ?_⟩
            rw [HTS.out, show tidyStep [] ⟨ak, fk⟩ = [] ++ [⟨ak, fk⟩] from rfl]
            unfold OwnSteps
            rw [flatS_append, List.length_append]
            exact HO3.out
          case measure => simp [intOf]; omega
        · obtain ⟨g, off2, cap2, rfl, hc0, hc1, hgb, hgA, hgF, hgR⟩ := (OwnSteps.is HOWN.out).cells (by omega)
          unfold maxLen at hc1
          obtain ⟨q, hq⟩ : ∃ q, o.length = q + 1 := ⟨o.length - 1, by omega⟩
          obtain ⟨lf, hlf⟩ : ∃ lf, lf = lastFree o := ⟨_, rfl⟩
          have c5 := hgF q (by omega)
          rw [show frv o q = lf by rw [hlf]; unfold lastFree; rw [hq]; rfl] at c5
          have HQ := Lib.hid hq
          rw [hq] at hc0
          have hm1 : ((q : Int) + 1 == 0) = false := by simp; omega
          have hqb : q ≤ 40000 := by omega
          clear hgA hgF hgR ho
          have hon := HOWN.out
          unfold OwnSteps at hon
          rw [hq] at hon
          have HON := Lib.hid hon
          clear hon
          rw [hq]
          clear hq
          have hqp : 0 < o.length := by rw [HQ.out]; omega
          by_cases hdup : lf = fk
          · have hdd : (lf != fk) = false := by simp [hdup]
            have hss : tidyStep o ⟨ak, fk⟩ = o := by unfold tidyStep; exact if_pos ⟨hqp, by rw [← hlf]; exact hdup⟩
            have HSS := Lib.hid hss; clear hss hdup hlf hqp
            go_wp2_with fail
            go_quiet (fail)
            go_wp2_with fail
            go_quiet (fail)
            go_wp2_with fail
            go_roundw
            case rel =>
              refine ⟨k + 1, by omega, by go_num, below_drewN (HB.out.alloc hwr _) _, ?_⟩
              rw [HTS.out, HSS.out]
              have := HON.out
              unfold OwnSteps
              rw [HQ.out]
              exact this.alloc _
            case measure => simp [intOf]; omega
          · have hdd : (lf != fk) = true := by simp [hdup]
            have hss : tidyStep o ⟨ak, fk⟩ = o ++ [⟨ak, fk⟩] := by unfold tidyStep; exact if_neg (fun h => hdup (by rw [hlf]; exact h.2))
            have HSS := Lib.hid hss; clear hss hdup hlf hqp
            go_wp2_with fail
            go_quiet (fail)
            go_wp2_with fail
            go_quiet (fail)
            go_wp2_with (at_builtin; refine wpList_append_own _ rfl (.tmp 50) (.tmp 52) 33 rfl w2.heap.size 38 i0 _ 2 16 Try.underlying33 hi hz0 hz1 hz2 rfl (by decide) _ _ _ rfl (by exact (HON.out.alloc _).alloc _) ⟨wr.heap.size + 1, 0, none⟩ 1 1 [.int .i64 ak, .int .i64 fk] rfl rfl (news_at _ _ (by simp) #[.int .i64 ak, .int .i64 fk] 38) (by simp [Value.oneCell']) (by unfold maxLen; omega) (by omega) (by simp; omega) ?_)
            intro v' w3 hown3 hgrow hnil
            have HO3 := Lib.hid hown3; clear hown3 hnil
            have HG := Lib.hid hgrow; clear hgrow
            go_wp2_with fail
            go_roundw
            case rel =>
              have hB3 : Below w2.heap.size w2 w3 := ((below_drewN (HB.out.alloc hwr _) _).alloc (by simp; omega) _).grown HG.out (by simp; omega) (fun g hg => ((World.ownsRow.lt HOWN.out) g hg).1)
              refine ⟨k + 1, by omega, by go_num, hB3, ?_⟩
              rw [HTS.out, HSS.out]
              unfold OwnSteps
              rw [flatS_append, List.length_append, HQ.out]
              exact HO3.out
            case measure => simp [intOf]; omega
    · have HB := Lib.hid hb; clear hb
      go_wp2_with fail
      rw [Exit.noGoto_ret]
      go_ret
      refine ⟨⟨_, rfl, ?_⟩, HBW.out.trans (HB.out.mono hw2)⟩
      have : k = l.length := by have := HN.out; omega
      rw [← tidyN_all, ← this]
      exact OwnSteps.mono HOWN.out hw2

end Go.Proofs.Ytjknmnmilladlaa

/-
  Plain: what steps.Add hands back, as a function of the list. No program here.
-/
namespace Go.Proofs.Ytjknmnmilladlaa

def plus (k : Int) (s : Step) : Step := ⟨s.at_, s.free + k⟩
def inRange (n : Int) : Bool := decide (0 ≤ n ∧ n ≤ 10000)
def preN (l : List Step) (frm : Int) : Nat := if atv l (plc l frm) = frm then plc l frm else plc l frm + 1
/-- the steps that Add lays together, ahead of Tidy -/
def addRaw (l : List Step) (frm to k : Int) : List Step := l.take (preN l frm) ++ (cutL l frm to).map (plus k) ++ [⟨to, val l to⟩] ++ l.drop (plc l to + 1)
def pOk (frm to k : Int) : Bool := isT frm && isT to && decide (frm ≤ to) && decide (-10000 ≤ k) && decide (k ≤ 10000)
def addErr (l : List Step) (frm to k : Int) : Int :=
  if chk l = false then 2 else if pOk frm to k = false then 2 else if frm = to then 0 else
  if (cutL l frm to).all (fun s => inRange (s.free + k)) = false then 70 else if 20000 < (tidy (addRaw l frm to k)).length then 3 else 0
def addRes (l : List Step) (frm to k : Int) : List Step := if addErr l frm to k = 0 then (if frm = to then l else tidy (addRaw l frm to k)) else []

/-- the steps of a while, the first j of them raised -/
def addN (l : List Step) (k : Int) (j : Nat) : List Step := (l.take j).map (plus k) ++ l.drop j

theorem addN_zero (l : List Step) (k : Int) : addN l k 0 = l := by simp [addN]
theorem addN_all (l : List Step) (k : Int) (j : Nat) (h : j = l.length) : addN l k j = l.map (plus k) := by subst h; simp [addN]
theorem length_addN (l : List Step) (k : Int) (j : Nat) : (addN l k j).length = l.length := by simp [addN]; omega
theorem addN_succ (l : List Step) (k : Int) (j : Nat) (h : j < l.length) : addN l k (j + 1) = (addN l k j).set j ⟨atv l j, frv l j + k⟩ := by
  unfold addN
  rw [List.take_succ_eq_append_getElem h, List.map_append, List.drop_eq_getElem_cons h, List.set_append_right _ _ (by simp; omega)]
  have : j - (List.map (plus k) (List.take j l)).length = 0 := by simp; omega
  rw [this, List.set_cons_zero, stepAt l j h]
  simp [plus]
theorem addN_at (l : List Step) (k : Int) (j : Nat) (h : j < l.length) : atv (addN l k j) j = atv l j ∧ frv (addN l k j) j = frv l j := by
  have hl : (List.map (plus k) (List.take j l)).length = j := by simp; omega
  have : (addN l k j).getD j default = l.getD j default := by
    unfold addN
    simp only [List.getD_eq_getElem?_getD]
    rw [List.getElem?_append_right (by omega), hl]
    simp
  unfold atv frv
  rw [this]
  exact ⟨rfl, rfl⟩
theorem flatS_set (l : List Step) (j : Nat) (h : j < l.length) (f : Int) : flatS (l.set j ⟨atv l j, f⟩) = (flatS l).set (j * 2 + 1) (.int .i64 f) := by
  induction l generalizing j with
  | nil => simp at h
  | cons a l ih =>
    cases j with
    | zero => simp [flatS, stepCells, atv]
    | succ j =>
      have := ih j (by simpa using h)
      simp only [flatS, List.flatMap_cons, List.set_cons_succ, atv, List.getD_cons_succ] at *
      rw [this]
      simp [stepCells, show (j + 1) * 2 + 1 = (j * 2 + 1) + 1 + 1 by omega]

theorem length_cutL (l : List Step) (frm to : Int) : (cutL l frm to).length = plc l (to - 1) + 1 - plc l frm := length_cutI _ _ _ _
theorem Valid.cutL_len {l : List Step} (h : Valid l) {frm to : Int} (h0 : 0 ≤ frm) (h1 : frm < to) : 0 < (cutL l frm to).length ∧ (cutL l frm to).length ≤ 20000 := by
  rw [length_cutL]
  have a := h.plc_mono h0 (show frm ≤ to - 1 by omega)
  have b := (h.plc (show 0 ≤ to - 1 by omega)).1
  have c := h.len
  omega

theorem cutI_at (l : List Step) (frm : Int) (p q j : Nat) (h : j < q - p) : atv (cutI l frm p q) j = max (atv l (p + j)) frm ∧ frv (cutI l frm p q) j = frv l (p + j) := by
  have : (cutI l frm p q).getD j default = ⟨max (atv l (p + j)) frm, frv l (p + j)⟩ := by
    unfold cutI
    simp [h]
  unfold atv frv at *
  rw [this]
  exact ⟨rfl, rfl⟩
theorem Valid.cutL_fr {l : List Step} (h : Valid l) {frm to : Int} (h0 : 0 ≤ frm) (h1 : frm < to) {j : Nat} (hj : j < (cutL l frm to).length) : 0 ≤ frv (cutL l frm to) j ∧ frv (cutL l frm to) j ≤ 10000 := by
  rw [length_cutL] at hj
  unfold cutL
  rw [(cutI_at l frm _ _ j hj).2]
  have b := (h.plc (show 0 ≤ to - 1 by omega)).1
  exact h.fr _ (by omega)
theorem all_inRange_no {l : List Step} {k : Int} {j : Nat} (hj : j < l.length) (h : inRange (frv l j + k) = false) : l.all (fun s => inRange (s.free + k)) = false := by
  rw [Bool.eq_false_iff]
  intro h'
  rw [List.all_eq_true] at h'
  have := h' l[j] (List.getElem_mem hj)
  rw [stepAt l j hj] at this
  rw [this] at h
  exact Bool.noConfusion h
theorem all_inRange_yes {l : List Step} {k : Int} (h : ∀ x, x < l.length → inRange (frv l x + k) = true) : l.all (fun s => inRange (s.free + k)) = true := by
  rw [List.all_eq_true]
  intro s hs
  obtain ⟨i, hi, rfl⟩ := List.getElem_of_mem hs
  have := h i hi
  rw [stepAt l i hi]
  exact this

end Go.Proofs.Ytjknmnmilladlaa

/-
  Walks: steps.Add.
-/
namespace Go.Proofs.Ytjknmnmilladlaa
open Go.RowKit

def AddPost (l : List Step) (frm to k : Int) (w : World) (e : Ending) (w' : World) : Prop :=
  (∃ v, e = .returned (.tuple #[v, .int .i64 (addErr l frm to k)]) ∧ OwnSteps w' w.heap.size v (addRes l frm to k)) ∧ Below w.heap.size w w'

theorem AddPost.no {l : List Step} {frm to k : Int} {w w' : World} {n : Int} (h : addErr l frm to k = n) (hn : n ≠ 0) (hb : Below w.heap.size w w') : AddPost l frm to k w (.returned (.tuple #[.slice none 0 0, .int .i64 n])) w' := by
  refine ⟨⟨_, by rw [h], ?_⟩, hb⟩
  have : addRes l frm to k = [] := by unfold addRes; rw [if_neg (by rw [h]; exact hn)]
  rw [this]
  exact World.ownsRow_nil _ _ _ _

set_option maxHeartbeats 1000000 in
set_option maxRecDepth 100000 in
theorem addBad {w : World} {v : Value} {l : List Step} (h : IsSteps w v l) (hc : chk l = false) (frm to k : Int) :
    Calls Try.prog 44 #[v, .int .i64 frm, .int .i64 to, .int .i64 k] w (AddPost l frm to k w) := by
  have HC := checkAny h
  rw [hc] at HC
  have HC := Lib.hid HC
  have he : addErr l frm to k = 2 := by simp [addErr, hc]
  have HE := Lib.hid he
  clear h hc he
  go_enter Try.func44, Try.ntmps44
  go_wp2_with fail
  refine (HC.out).mono ?_
  rintro e w1 ⟨rfl, hb1⟩
  have HB := Lib.hid hb1; clear hb1
  have e2 : errOf false = 2 := rfl
  go_wp2_with fail
  go_ret2
  exact AddPost.no HE.out (by omega) HB.out

set_option maxHeartbeats 4000000 in
set_option maxRecDepth 100000 in
theorem addArg {w : World} {v : Value} {l : List Step} (h : IsSteps w v l) (hc : chk l = true) (frm to k : Int) (hp : pOk frm to k = false) :
    Calls Try.prog 44 #[v, .int .i64 frm, .int .i64 to, .int .i64 k] w (AddPost l frm to k w) := by
  have HC := checkAny h
  rw [hc] at HC
  have HC := Lib.hid HC
  have he : addErr l frm to k = 2 := by simp [addErr, hp]
  have HE := Lib.hid he
  clear h hc he
  have e0 : errOf true = 0 := rfl
  have hcases : isT frm = false ∨ (isT frm = true ∧ isT to = false) ∨ (isT frm = true ∧ isT to = true ∧ to < frm) ∨ (isT frm = true ∧ isT to = true ∧ frm ≤ to ∧ k < -10000) ∨ (isT frm = true ∧ isT to = true ∧ frm ≤ to ∧ -10000 ≤ k ∧ 10000 < k) := by
    unfold pOk at hp
    cases h1 : isT frm
    · exact .inl rfl
    cases h2 : isT to
    · exact .inr (.inl ⟨rfl, rfl⟩)
    simp [h1, h2] at hp
    rcases Int.lt_or_le to frm with h3 | h3
    · exact .inr (.inr (.inl ⟨rfl, rfl, h3⟩))
    rcases Int.lt_or_le k (-10000) with h4 | h4
    · exact .inr (.inr (.inr (.inl ⟨rfl, rfl, h3, h4⟩)))
    · exact .inr (.inr (.inr (.inr ⟨rfl, rfl, h3, h4, by omega⟩)))
  clear hp
  rcases hcases with h1 | ⟨h1, h2⟩ | ⟨h1, h2, h3⟩ | ⟨h1, h2, h3, h4⟩ | ⟨h1, h2, h3, h4, h5⟩
  · go_enter Try.func44, Try.ntmps44
    go_wp2_with fail
    refine (HC.out).mono ?_
    rintro e w1 ⟨rfl, hb1⟩
    have HB := Lib.hid hb1; clear hb1
    go_wp2_with fail
    refine (clockIsF frm _ h1).mono ?_
    rintro e w2 ⟨rfl, rfl⟩
    go_wp2_with fail
    go_ret2
    exact AddPost.no HE.out (by omega) HB.out
  · go_enter Try.func44, Try.ntmps44
    go_wp2_with fail
    refine (HC.out).mono ?_
    rintro e w1 ⟨rfl, hb1⟩
    have HB := Lib.hid hb1; clear hb1
    go_wp2_with fail
    refine (clockIsT frm _ h1).mono ?_
    rintro e w2 ⟨rfl, rfl⟩
    go_wp2_with fail
    refine (clockIsF to _ h2).mono ?_
    rintro e w2 ⟨rfl, rfl⟩
    go_wp2_with fail
    go_ret2
    exact AddPost.no HE.out (by omega) HB.out
  · go_enter Try.func44, Try.ntmps44
    go_wp2_with fail
    refine (HC.out).mono ?_
    rintro e w1 ⟨rfl, hb1⟩
    have HB := Lib.hid hb1; clear hb1
    go_wp2_with fail
    refine (clockIsT frm _ h1).mono ?_
    rintro e w2 ⟨rfl, rfl⟩
    go_wp2_with fail
    refine (clockIsT to _ h2).mono ?_
    rintro e w2 ⟨rfl, rfl⟩
    have hd : decide (to < frm) = true := by simpa using h3
    go_wp2_with fail
    go_ret2
    exact AddPost.no HE.out (by omega) HB.out
  · go_enter Try.func44, Try.ntmps44
    go_wp2_with fail
    refine (HC.out).mono ?_
    rintro e w1 ⟨rfl, hb1⟩
    have HB := Lib.hid hb1; clear hb1
    go_wp2_with fail
    refine (clockIsT frm _ h1).mono ?_
    rintro e w2 ⟨rfl, rfl⟩
    go_wp2_with fail
    refine (clockIsT to _ h2).mono ?_
    rintro e w2 ⟨rfl, rfl⟩
    have hd : decide (to < frm) = false := by simpa using h3
    have hd2 : decide (k < -10000) = true := by simpa using h4
    go_wp2_with fail
    go_ret2
    exact AddPost.no HE.out (by omega) HB.out
  · go_enter Try.func44, Try.ntmps44
    go_wp2_with fail
    refine (HC.out).mono ?_
    rintro e w1 ⟨rfl, hb1⟩
    have HB := Lib.hid hb1; clear hb1
    go_wp2_with fail
    refine (clockIsT frm _ h1).mono ?_
    rintro e w2 ⟨rfl, rfl⟩
    go_wp2_with fail
    refine (clockIsT to _ h2).mono ?_
    rintro e w2 ⟨rfl, rfl⟩
    have hd : decide (to < frm) = false := by simpa using h3
    have hd2 : decide (k < -10000) = false := by simpa using h4
    have hd3 : decide (10000 < k) = true := by simpa using h5
    go_wp2_with fail
    go_ret2
    exact AddPost.no HE.out (by omega) HB.out

set_option maxHeartbeats 1000000 in
set_option maxRecDepth 100000 in
theorem addSame {w : World} {v : Value} {l : List Step} (h : IsSteps w v l) (hc : chk l = true) (frm k : Int) (hp : pOk frm frm k = true) :
    Calls Try.prog 44 #[v, .int .i64 frm, .int .i64 frm, .int .i64 k] w (AddPost l frm frm k w) := by
  have hv := chk_iff.1 hc
  have HC := checkAny h
  rw [hc] at HC
  have HC := Lib.hid HC
  have he : addErr l frm frm k = 0 := by simp [addErr, hc, hp]
  have hr : addRes l frm frm k = l := by simp [addRes, he]
  have e0 : errOf true = 0 := rfl
  have h1 : isT frm = true := by simp [pOk] at hp; exact hp.1.1
  have h3 : -10000 ≤ k ∧ k ≤ 10000 := by simp [pOk] at hp; omega
  have hd2 : decide (k < -10000) = false := by simp; omega
  have hd3 : decide (10000 < k) = false := by simp; omega
  have hd0 : decide (frm < frm) = false := by simp
  have hd1 : (frm == frm) = true := by simp
  have HE := Lib.hid he
  have HR := Lib.hid hr
  have HV := Lib.hid hv
  have HH := Lib.hid h
  clear h hc he hr hv hp h3
  go_enter Try.func44, Try.ntmps44
  go_wp2_with fail
  refine (HC.out).mono ?_
  rintro e w1 ⟨rfl, hb1⟩
  have hcl := cloneAny (HH.out.below hb1) (Nat.le_trans HV.out.len (by omega))
  have HCL := Lib.hid hcl
  have HB := Lib.hid hb1; clear hb1 hcl
  go_wp2_with fail
  refine (clockIsT frm _ h1).mono ?_
  rintro e w2 ⟨rfl, rfl⟩
  go_wp2_with fail
  refine (clockIsT frm _ h1).mono ?_
  rintro e w2 ⟨rfl, rfl⟩
  go_wp2_with fail
  refine (HCL.out).mono ?_
  rintro e w3 ⟨⟨v', rfl, hown⟩, hb2⟩
  have HO := Lib.hid hown
  have HB2 := Lib.hid hb2; clear hb2 hown
  go_wp2_with fail
  go_ret2
  refine ⟨⟨v', by rw [HE.out]; rfl, ?_⟩, HB.out.trans (HB2.out.mono HB.out.size)⟩
  rw [HR.out]
  exact OwnSteps.mono HO.out HB.out.size

end Go.Proofs.Ytjknmnmilladlaa

/-
  Plain: the steps that Add lays together rise. No program here.
-/
namespace Go.Proofs.Ytjknmnmilladlaa

def Rises (l : List Step) : Prop := l.Pairwise fun a b => a.at_ < b.at_

theorem rises_iff (l : List Step) : Rises l ↔ ∀ i j, i < j → j < l.length → atv l i < atv l j := by
  unfold Rises
  rw [List.pairwise_iff_getElem]
  constructor
  · intro h i j hij hj
    have := h i j (by omega) hj hij
    rw [stepAt l i (by omega), stepAt l j hj] at this
    exact this
  · intro h i j hi hj hij
    rw [stepAt l i hi, stepAt l j hj]
    exact h i j hij hj

theorem Valid.rises {l : List Step} (h : Valid l) : Rises l := (rises_iff l).2 h.rise

theorem mem_take_at {l : List Step} {u : Nat} {s : Step} (h : s ∈ l.take u) : ∃ i, i < u ∧ i < l.length ∧ s = ⟨atv l i, frv l i⟩ := by
  obtain ⟨i, hi, rfl⟩ := List.getElem_of_mem h
  rw [List.length_take] at hi
  exact ⟨i, by omega, by omega, by rw [List.getElem_take, stepAt l i (by omega)]⟩
theorem mem_drop_at {l : List Step} {u : Nat} {s : Step} (h : s ∈ l.drop u) : ∃ i, u ≤ i ∧ i < l.length ∧ s = ⟨atv l i, frv l i⟩ := by
  obtain ⟨i, hi, rfl⟩ := List.getElem_of_mem h
  simp at hi
  exact ⟨u + i, by omega, by omega, by rw [List.getElem_drop, stepAt l (u + i) (by omega)]⟩
theorem mem_cutI {l : List Step} {frm : Int} {p q : Nat} {s : Step} (h : s ∈ cutI l frm p q) : ∃ i, p ≤ i ∧ i < q ∧ s = ⟨max (atv l i) frm, frv l i⟩ := by
  unfold cutI at h
  rw [List.mem_map] at h
  obtain ⟨i, hi, rfl⟩ := h
  rw [List.mem_range'_1] at hi
  exact ⟨i, hi.1, by omega, rfl⟩

theorem preN_at {l : List Step} (h : Valid l) {frm : Int} (h0 : 0 ≤ frm) : ∀ i, i < preN l frm → atv l i < frm := by
  intro i hi
  obtain ⟨a, b, c⟩ := h.plc h0
  unfold preN at hi
  split at hi
  · rename_i he
    have := h.rise i _ hi a
    omega
  · rename_i he
    rcases Nat.lt_or_ge i (plc l frm) with h1 | h1
    · have := h.rise i _ h1 a; omega
    · obtain rfl : i = plc l frm := by omega
      omega
theorem preN_le {l : List Step} (h : Valid l) {frm : Int} (h0 : 0 ≤ frm) : preN l frm ≤ l.length := by
  have := (h.plc h0).1
  unfold preN
  split <;> omega

theorem cut_between {l : List Step} (h : Valid l) {frm to : Int} (h0 : 0 ≤ frm) (h1 : frm < to) {s : Step} (hs : s ∈ cutL l frm to) : frm ≤ s.at_ ∧ s.at_ < to := by
  obtain ⟨i, hi1, hi2, rfl⟩ := mem_cutI hs
  obtain ⟨a, b, c⟩ := h.plc (show 0 ≤ to - 1 by omega)
  have : atv l i ≤ to - 1 := by
    rcases Nat.lt_or_ge i (plc l (to - 1)) with h2 | h2
    · have := h.rise i _ h2 a; omega
    · obtain rfl : i = plc l (to - 1) := by omega
      exact b
  constructor
  · show frm ≤ max (atv l i) frm
    omega
  · show max (atv l i) frm < to
    omega

theorem cut_rises {l : List Step} (h : Valid l) {frm to : Int} (h0 : 0 ≤ frm) (h1 : frm < to) : Rises (cutL l frm to) := by
  rw [rises_iff]
  intro i j hij hj
  have hq := (h.plc (show 0 ≤ to - 1 by omega)).1
  have hp := (h.plc h0)
  rw [length_cutL] at hj
  unfold cutL
  rw [(cutI_at l frm _ _ i (by omega)).1, (cutI_at l frm _ _ j hj).1]
  have h2 := h.rise (plc l frm + i) (plc l frm + j) (by omega) (by omega)
  have h3 := hp.2.2 (plc l frm + j) (by omega) (by omega)
  omega

theorem addRaw_rises {l : List Step} (h : Valid l) {frm to k : Int} (h0 : 0 ≤ frm) (h1 : frm < to) : Rises (addRaw l frm to k) := by
  unfold addRaw Rises
  have hq := h.plc (show 0 ≤ to by omega)
  have hcut : ∀ s ∈ (cutL l frm to).map (plus k), frm ≤ s.at_ ∧ s.at_ < to := by
    intro s hs
    rw [List.mem_map] at hs
    obtain ⟨x, hx, hxs⟩ := hs
    have := cut_between h h0 h1 hx
    rw [← hxs]
    exact this
  have hpre : ∀ s ∈ l.take (preN l frm), s.at_ < frm := by
    intro s hs
    obtain ⟨i, hi, _, rfl⟩ := mem_take_at hs
    exact preN_at h h0 i hi
  have hdrop : ∀ s ∈ l.drop (plc l to + 1), to < s.at_ := by
    intro s hs
    obtain ⟨i, hi, hi2, rfl⟩ := mem_drop_at hs
    exact hq.2.2 i (by omega) hi2
  rw [List.pairwise_append, List.pairwise_append, List.pairwise_append]
  refine ⟨⟨⟨?_, ?_, ?_⟩, ?_, ?_⟩, ?_, ?_⟩
  · exact h.rises.sublist (List.take_sublist _ _)
  · rw [List.pairwise_map]
    exact cut_rises h h0 h1
  · intro a ha b hb
    have := hpre a ha
    have := (hcut b hb).1
    omega
  · simp
  · intro a ha b hb
    simp at hb
    subst hb
    rw [List.mem_append] at ha
    rcases ha with ha | ha
    · have := hpre a ha
      show a.at_ < to
      omega
    · exact (hcut a ha).2
  · exact h.rises.sublist (List.drop_sublist _ _)
  · intro a ha b hb
    have h2 := hdrop b hb
    rw [List.mem_append, List.mem_append] at ha
    rcases ha with (ha | ha) | ha
    · have := hpre a ha; omega
    · have := (hcut a ha).2; omega
    · simp at ha; subst ha; exact h2

theorem addRaw_len {l : List Step} (h : Valid l) {frm to k : Int} (h0 : 0 ≤ frm) (h1 : frm < to) : 0 < (addRaw l frm to k).length ∧ (addRaw l frm to k).length ≤ l.length + 2 := by
  have c := (h.plc h0).1
  have c2 := (h.plc (show 0 ≤ to by omega)).1
  have d := h.plc_mono h0 (show frm ≤ to - 1 by omega)
  have d2 := h.plc_mono (show 0 ≤ to - 1 by omega) (show to - 1 ≤ to by omega)
  unfold addRaw
  simp only [List.length_append, List.length_map, List.length_take, List.length_drop, List.length_cons, List.length_nil, length_cutL]
  have e : preN l frm ≤ plc l frm + 1 := by unfold preN; split <;> omega
  have e4 : min (preN l frm) l.length ≤ plc l frm + 1 := Nat.le_trans (Nat.min_le_left _ _) e
  omega

end Go.Proofs.Ytjknmnmilladlaa
