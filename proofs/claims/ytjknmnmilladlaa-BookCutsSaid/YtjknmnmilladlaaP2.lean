/-
  Plain facts on Tidy: steps that say nothing new are left out. No program here.
-/
import Derived.Test.YtjknmnmilladlaaP1
namespace Go.Proofs.Ytjknmnmilladlaa

def lastFree (out : List Step) : Int := frv out (out.length - 1)
def tidyStep (out : List Step) (s : Step) : List Step := if 0 < out.length ∧ lastFree out = s.free then out else out ++ [s]
def tidyN (l : List Step) (k : Nat) : List Step := (l.take k).foldl tidyStep []
def tidy (l : List Step) : List Step := l.foldl tidyStep []

theorem tidyN_zero (l : List Step) : tidyN l 0 = [] := rfl
theorem tidyN_all (l : List Step) : tidyN l l.length = tidy l := by simp [tidyN, tidy]
theorem stepAt (l : List Step) (k : Nat) (h : k < l.length) : l[k] = ⟨atv l k, frv l k⟩ := by simp [atv, frv, h]
theorem tidyN_succ (l : List Step) (k : Nat) (h : k < l.length) : tidyN l (k + 1) = tidyStep (tidyN l k) ⟨atv l k, frv l k⟩ := by
  unfold tidyN
  rw [List.take_succ_eq_append_getElem h, List.foldl_append, ← stepAt l k h]
  rfl
theorem length_tidyN (l : List Step) (k : Nat) : (tidyN l k).length ≤ k := by
  induction k with
  | zero => simp [tidyN]
  | succ k ih =>
    by_cases h : k < l.length
    · rw [tidyN_succ l k h]
      unfold tidyStep
      split
      · omega
      · simp; omega
    · have : tidyN l (k + 1) = tidyN l k := by
        unfold tidyN
        rw [List.take_of_length_le (by omega), List.take_of_length_le (by omega)]
      rw [this]; omega

end Go.Proofs.Ytjknmnmilladlaa
