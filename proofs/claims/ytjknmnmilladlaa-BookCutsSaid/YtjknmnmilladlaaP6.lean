/-
  Plain: who has to go (hurt), as a function of the over-list and the slots. No program here.
-/
import Derived.Test.YtjknmnmilladlaaM2
namespace Go.Proofs.Ytjknmnmilladlaa

def hitX (s : Slot) (a f : Int) : Bool := decide (0 < f) && decide (s.frm ≤ a) && decide (a < s.to)
/-- Does one of the first n times hit a slot? -/
def hitN (all : List Step) (s : Slot) (n : Nat) : Bool := (List.range n).any fun i => hitX s (atv all i) (frv all i)
def hitS (all : List Step) (s : Slot) : Bool := hitN all s all.length
def mxS (all : List Step) (m : Int) (s : Slot) : Int := if m < s.id ∧ hitS all s = true then s.id else m
def hurtOf (all : List Step) (L : List Slot) : Int := L.foldl (mxS all) 0

theorem mxS_comm (all : List Step) (m : Int) (a b : Slot) : mxS all (mxS all m a) b = mxS all (mxS all m b) a := by
  unfold mxS
  cases hitS all a <;> cases hitS all b <;> simp
  by_cases h1 : m < a.id <;> by_cases h2 : m < b.id <;> by_cases h3 : a.id < b.id <;> by_cases h4 : b.id < a.id <;> simp [h1, h2, h3, h4] <;> omega
theorem hurtOf_perm (all : List Step) {L L' : List Slot} (h : L.Perm L') : hurtOf all L = hurtOf all L' := by
  unfold hurtOf
  generalize (0 : Int) = m
  induction h generalizing m with
  | nil => rfl
  | cons a _ ih => exact ih _
  | swap a b l => simp only [List.foldl_cons]; rw [mxS_comm]
  | trans _ _ ih1 ih2 => exact (ih1 m).trans (ih2 m)
theorem hurtOf_snoc (all : List Step) (L : List Slot) (s : Slot) : hurtOf all (L ++ [s]) = mxS all (hurtOf all L) s := by simp [hurtOf, List.foldl_append]
theorem hitN_succ (all : List Step) (s : Slot) (j : Nat) : hitN all s (j + 1) = (hitN all s j || hitX s (atv all j) (frv all j)) := by
  unfold hitN
  rw [List.range_succ, List.any_append]
  simp
theorem hitN_mono (all : List Step) (s : Slot) {j n : Nat} (h : j ≤ n) (hj : hitN all s j = true) : hitN all s n = true := by
  unfold hitN at *
  rw [List.any_eq_true] at *
  obtain ⟨i, hi, hh⟩ := hj
  rw [List.mem_range] at hi
  exact ⟨i, by rw [List.mem_range]; omega, hh⟩
theorem perm_step {dn x y L : List Slot} {s : Slot} (h : (dn ++ (x ++ s :: y)).Perm L) : ((dn ++ [s]) ++ (x ++ y)).Perm L := by
  refine List.Perm.trans ?_ h
  rw [List.append_assoc]
  refine List.Perm.append_left dn ?_
  simpa using (List.perm_middle (a := s) (l₁ := x) (l₂ := y)).symm

end Go.Proofs.Ytjknmnmilladlaa
