/-
  Plain: those of a list that stay, one behind the other. No program here.
-/
import Derived.Test.YtjknmnmilladlaaP16
namespace Go.Proofs.Ytjknmnmilladlaa

theorem filter_take {S : List Slot} (p : Slot → Bool) {i : Nat} (h : i < S.length) :
    (p (S.getD i default) = true → ((S.take (i + 1)).filter p).length = ((S.take i).filter p).length + 1 ∧ ((S.take i).filter p).length < (S.filter p).length ∧ (S.filter p).getD ((S.take i).filter p).length default = S.getD i default) ∧
    (p (S.getD i default) = false → ((S.take (i + 1)).filter p).length = ((S.take i).filter p).length) := by
  have hg : S.getD i default = S[i] := by rw [List.getD_eq_getElem?_getD, List.getElem?_eq_getElem h]; rfl
  have ht : S.take (i + 1) = S.take i ++ [S[i]] := List.take_succ_eq_append_getElem h
  have hs : S = S.take i ++ (S[i] :: S.drop (i + 1)) := by rw [← List.drop_eq_getElem_cons h, List.take_append_drop]
  rw [hg]
  constructor
  · intro hp
    have hf : S.filter p = (S.take i).filter p ++ (S[i] :: (S.drop (i + 1)).filter p) := by
      conv => lhs; rw [hs]
      rw [List.filter_append, List.filter_cons_of_pos hp]
    refine ⟨by rw [ht, List.filter_append]; simp [hp], by rw [hf]; simp, ?_⟩
    rw [hf, List.getD_eq_getElem?_getD, List.getElem?_append_right (Nat.le_refl _)]
    simp
  · intro hp
    rw [ht, List.filter_append]
    simp [hp]

theorem mem_take_succ {G : List Int} {j : Nat} (h : j < G.length) (x : Int) : decide (x ∈ G.take (j + 1)) = (decide (x ∈ G.take j) || (G.getD j default == x)) := by
  rw [List.take_succ_eq_append_getElem h, List.getD_eq_getElem?_getD, List.getElem?_eq_getElem h]
  rw [Bool.eq_iff_iff]
  simp only [Option.getD_some, List.mem_append, List.mem_singleton, Bool.or_eq_true, decide_eq_true_eq, beq_iff_eq]
  exact ⟨fun h => h.imp id Eq.symm, fun h => h.imp id Eq.symm⟩

end Go.Proofs.Ytjknmnmilladlaa
