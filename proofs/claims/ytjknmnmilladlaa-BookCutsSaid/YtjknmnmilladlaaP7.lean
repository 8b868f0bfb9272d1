/-
  Plain: the times at which anything changes, and how much is reserved at a time. No program here.
-/
import Derived.Test.YtjknmnmilladlaaP6
namespace Go.Proofs.Ytjknmnmilladlaa

def slotT (L : List Slot) : List Int := L.flatMap fun s => [s.frm, s.to]
def stepT (up : List Step) : List Int := up.map (·.at_)
def covS (t : Int) (s : Slot) : Int := if s.frm ≤ t ∧ t < s.to then s.nodes else 0
def loadOf (L : List Slot) (t : Int) : Int := L.foldl (fun n s => n + covS t s) 0

theorem foldl_cov (L : List Slot) (t a b : Int) : L.foldl (fun n s => n + covS t s) (a + b) = a + L.foldl (fun n s => n + covS t s) b := by
  induction L generalizing b with
  | nil => rfl
  | cons s L ih => simp only [List.foldl_cons]; rw [Int.add_assoc, ih]
theorem loadOf_cons (s : Slot) (L : List Slot) (t : Int) : loadOf (s :: L) t = covS t s + loadOf L t := by
  unfold loadOf
  rw [List.foldl_cons, show (0 : Int) + covS t s = covS t s + 0 by omega, foldl_cov]
theorem loadOf_snoc (L : List Slot) (s : Slot) (t : Int) : loadOf (L ++ [s]) t = loadOf L t + covS t s := by simp [loadOf, List.foldl_append]
theorem loadOf_perm {L L' : List Slot} (h : L.Perm L') (t : Int) : loadOf L t = loadOf L' t := by
  induction h with
  | nil => rfl
  | cons a _ ih => rw [loadOf_cons, loadOf_cons, ih]
  | swap a b l => rw [loadOf_cons, loadOf_cons, loadOf_cons, loadOf_cons]; omega
  | trans _ _ ih1 ih2 => exact ih1.trans ih2
theorem loadOf_append (L L' : List Slot) (t : Int) : loadOf (L ++ L') t = loadOf L t + loadOf L' t := by
  induction L with
  | nil => simp [loadOf]
  | cons a L ih => rw [List.cons_append, loadOf_cons, loadOf_cons, ih]; omega
theorem loadOf_bound {L : List Slot} (h : ∀ s ∈ L, 1 ≤ s.nodes ∧ s.nodes ≤ 10000) (t : Int) : 0 ≤ loadOf L t ∧ loadOf L t ≤ 10000 * L.length := by
  induction L with
  | nil => simp [loadOf]
  | cons a L ih =>
    rw [loadOf_cons]
    have h1 := ih fun s hs => h s (List.mem_cons_of_mem _ hs)
    have h2 := h a List.mem_cons_self
    have h3 : 0 ≤ covS t a ∧ covS t a ≤ 10000 := by unfold covS; split <;> omega
    simp only [List.length_cons]
    omega
theorem slotT_snoc (L : List Slot) (s : Slot) : slotT (L ++ [s]) = slotT L ++ [s.frm, s.to] := by simp [slotT]
theorem length_slotT (L : List Slot) : (slotT L).length = L.length * 2 := by
  induction L with
  | nil => rfl
  | cons a L ih => simp only [slotT, List.flatMap_cons, List.length_append] at *; rw [ih]; simp; omega
theorem mem_slotT_perm {L L' : List Slot} (h : L.Perm L') {t : Int} : t ∈ slotT L ↔ t ∈ slotT L' := by
  unfold slotT
  simp only [List.mem_flatMap]
  exact ⟨fun ⟨s, hs, ht⟩ => ⟨s, h.mem_iff.1 hs, ht⟩, fun ⟨s, hs, ht⟩ => ⟨s, h.mem_iff.2 hs, ht⟩⟩
theorem stepT_take (up : List Step) (k : Nat) (h : k < up.length) : (stepT up).take (k + 1) = (stepT up).take k ++ [atv up k] := by
  rw [List.take_succ_eq_append_getElem (by simpa [stepT] using h)]
  simp [stepT, atv, h]

end Go.Proofs.Ytjknmnmilladlaa
