/-
  Plain: what steps.Add hands back, as a function of the list. No program here.
-/
import Derived.Test.YtjknmnmilladlaaP2
namespace Go.Proofs.Ytjknmnmilladlaa

def plus (k : Int) (s : Step) : Step := ⟨s.at_, s.free + k⟩
def inRange (n : Int) : Bool := decide (0 ≤ n ∧ n ≤ 10000)
def preN (l : List Step) (frm : Int) : Nat := if atv l (plc l frm) = frm then plc l frm else plc l frm + 1
/-- the steps that Add lays together, ahead of Tidy -/
def addRaw (l : List Step) (frm to k : Int) : List Step := l.take (preN l frm) ++ (cutL l frm to).map (plus k) ++ [⟨to, val l to⟩] ++ l.drop (plc l to + 1)
def pOk (frm to k : Int) : Bool := isT frm && isT to && decide (frm ≤ to) && decide (-10000 ≤ k) && decide (k ≤ 10000)
def addErr (l : List Step) (frm to k : Int) : Int :=
  if chk l = false then 2 else if pOk frm to k = false then 2 else if frm = to then 0 else
  if (cutL l frm to).all (fun s => inRange (s.free + k)) = false then 70 else if 20000 < (tidy (addRaw l frm to k)).length then 3 else 0
def addRes (l : List Step) (frm to k : Int) : List Step := if addErr l frm to k = 0 then (if frm = to then l else tidy (addRaw l frm to k)) else []

/-- the steps of a while, the first j of them raised -/
def addN (l : List Step) (k : Int) (j : Nat) : List Step := (l.take j).map (plus k) ++ l.drop j

theorem addN_zero (l : List Step) (k : Int) : addN l k 0 = l := by simp [addN]
theorem addN_all (l : List Step) (k : Int) (j : Nat) (h : j = l.length) : addN l k j = l.map (plus k) := by subst h; simp [addN]
theorem length_addN (l : List Step) (k : Int) (j : Nat) : (addN l k j).length = l.length := by simp [addN]; omega
theorem addN_succ (l : List Step) (k : Int) (j : Nat) (h : j < l.length) : addN l k (j + 1) = (addN l k j).set j ⟨atv l j, frv l j + k⟩ := by
  unfold addN
  rw [List.take_succ_eq_append_getElem h, List.map_append, List.drop_eq_getElem_cons h, List.set_append_right _ _ (by simp; omega)]
  have : j - (List.map (plus k) (List.take j l)).length = 0 := by simp; omega
  rw [this, List.set_cons_zero, stepAt l j h]
  simp [plus]
theorem addN_at (l : List Step) (k : Int) (j : Nat) (h : j < l.length) : atv (addN l k j) j = atv l j ∧ frv (addN l k j) j = frv l j := by
  have hl : (List.map (plus k) (List.take j l)).length = j := by simp; omega
  have : (addN l k j).getD j default = l.getD j default := by
    unfold addN
    simp only [List.getD_eq_getElem?_getD]
    rw [List.getElem?_append_right (by omega), hl]
    simp
  unfold atv frv
  rw [this]
  exact ⟨rfl, rfl⟩
theorem flatS_set (l : List Step) (j : Nat) (h : j < l.length) (f : Int) : flatS (l.set j ⟨atv l j, f⟩) = (flatS l).set (j * 2 + 1) (.int .i64 f) := by
  induction l generalizing j with
  | nil => simp at h
  | cons a l ih =>
    cases j with
    | zero => simp [flatS, stepCells, atv]
    | succ j =>
      have := ih j (by simpa using h)
      simp only [flatS, List.flatMap_cons, List.set_cons_succ, atv, List.getD_cons_succ] at *
      rw [this]
      simp [stepCells, show (j + 1) * 2 + 1 = (j * 2 + 1) + 1 + 1 by omega]

theorem length_cutL (l : List Step) (frm to : Int) : (cutL l frm to).length = plc l (to - 1) + 1 - plc l frm := length_cutI _ _ _ _
theorem Valid.cutL_len {l : List Step} (h : Valid l) {frm to : Int} (h0 : 0 ≤ frm) (h1 : frm < to) : 0 < (cutL l frm to).length ∧ (cutL l frm to).length ≤ 20000 := by
  rw [length_cutL]
  have a := h.plc_mono h0 (show frm ≤ to - 1 by omega)
  have b := (h.plc (show 0 ≤ to - 1 by omega)).1
  have c := h.len
  omega

theorem cutI_at (l : List Step) (frm : Int) (p q j : Nat) (h : j < q - p) : atv (cutI l frm p q) j = max (atv l (p + j)) frm ∧ frv (cutI l frm p q) j = frv l (p + j) := by
  have : (cutI l frm p q).getD j default = ⟨max (atv l (p + j)) frm, frv l (p + j)⟩ := by
    unfold cutI
    simp [h]
  unfold atv frv at *
  rw [this]
  exact ⟨rfl, rfl⟩
theorem Valid.cutL_fr {l : List Step} (h : Valid l) {frm to : Int} (h0 : 0 ≤ frm) (h1 : frm < to) {j : Nat} (hj : j < (cutL l frm to).length) : 0 ≤ frv (cutL l frm to) j ∧ frv (cutL l frm to) j ≤ 10000 := by
  rw [length_cutL] at hj
  unfold cutL
  rw [(cutI_at l frm _ _ j hj).2]
  have b := (h.plc (show 0 ≤ to - 1 by omega)).1
  exact h.fr _ (by omega)
theorem all_inRange_no {l : List Step} {k : Int} {j : Nat} (hj : j < l.length) (h : inRange (frv l j + k) = false) : l.all (fun s => inRange (s.free + k)) = false := by
  rw [Bool.eq_false_iff]
  intro h'
  rw [List.all_eq_true] at h'
  have := h' l[j] (List.getElem_mem hj)
  rw [stepAt l j hj] at this
  rw [this] at h
  exact Bool.noConfusion h
theorem all_inRange_yes {l : List Step} {k : Int} (h : ∀ x, x < l.length → inRange (frv l x + k) = true) : l.all (fun s => inRange (s.free + k)) = true := by
  rw [List.all_eq_true]
  intro s hs
  obtain ⟨i, hi, rfl⟩ := List.getElem_of_mem hs
  have := h i hi
  rw [stepAt l i hi]
  exact this

end Go.Proofs.Ytjknmnmilladlaa
