/-
  Walks: slices.Index and slices.Contains at numbers.
-/
import Derived.Test.YtjknmnmilladlaaW24
namespace Go.Proofs.Ytjknmnmilladlaa
open Go.RowKit

def idxOf (l : List Int) (x : Int) : Int := if x ∈ l then (l.idxOf x : Int) else -1

theorem idxOf_found {l : List Int} {x : Int} {k : Nat} (hk : k < l.length) (h : l.getD k default = x) (hb : ∀ j, j < k → l.getD j default ≠ x) : idxOf l x = k := by
  have hm : l[k] = x := by rw [← h, List.getD_eq_getElem?_getD, List.getElem?_eq_getElem hk]; rfl
  unfold idxOf
  rw [if_pos (by rw [← hm]; exact List.getElem_mem hk)]
  congr 1
  have h1 : l.idxOf x ≤ k := by
    rcases Nat.lt_or_ge k (l.idxOf x) with h2 | h2
    · exact absurd hm (List.not_of_lt_findIdx (p := (· == x)) h2 |> fun h3 => by simpa using h3)
    · exact h2
  rcases Nat.lt_or_ge (l.idxOf x) k with h2 | h2
  · have h3 := hb _ h2
    have h4 : l.idxOf x < l.length := by omega
    exfalso
    apply h3
    rw [List.getD_eq_getElem?_getD, List.getElem?_eq_getElem h4]
    simp
  · omega
theorem idxOf_none {l : List Int} {x : Int} (hb : ∀ j, j < l.length → l.getD j default ≠ x) : idxOf l x = -1 := by
  unfold idxOf
  rw [if_neg]
  intro hm
  obtain ⟨i, hi, rfl⟩ := List.getElem_of_mem hm
  exact hb i hi (by rw [List.getD_eq_getElem?_getD, List.getElem?_eq_getElem hi]; rfl)

set_option maxHeartbeats 4000000 in
set_option maxRecDepth 100000 in
theorem indexInts {w : World} {v : Value} {l : List Int} (h : IsInts w v l) (x : Int) :
    Calls Try.prog 58 #[v, .int .i64 x] w fun e w' => e = .returned (.int .i64 (idxOf l x)) ∧ w = w' := by
  by_cases hp : 0 < l.length
  rotate_left
  · have e1 : l = [] := List.eq_nil_of_length_eq_zero (by omega)
    subst e1
    obtain ⟨a1, c1, rfl, p1, p2⟩ := h.shape
    clear h hp
    have hx : idxOf [] x = -1 := by simp [idxOf]
    rw [hx]
    simp only [List.length_nil]
    go_enter Try.func58, Try.ntmps58
    go_wp2_with fail
    go_loop [8] (fun i => i = .int .i64 0) (fun _ => 0)
    case atStart => exact rfl
    case round =>
      obtain rfl := hrel
      go_wp2_with fail
      go_ret
      exact ⟨rfl, rfl⟩
  · obtain ⟨b1, o1, c1, rfl, p1, p2, p3, C1⟩ := intAtV h hp
    obtain ⟨N, hN⟩ : ∃ N, N = l.length := ⟨_, rfl⟩
    rw [← hN] at p1 C1 hp ⊢
    obtain ⟨r, hr⟩ : ∃ r, r = idxOf l x := ⟨_, rfl⟩
    rw [← hr]
    have HR := Lib.hid hr
    have HC := Lib.hid C1
    have HN := Lib.hid hN
    clear h C1 hr hN
    go_enter Try.func58, Try.ntmps58
    go_wp2_with fail
    go_loop [8] (fun i => ∃ k : Nat, k ≤ N ∧ i = .int .i64 k ∧ ∀ j, j < k → l.getD j default ≠ x) (fun i => N - (intOf i).toNat)
    case atStart => exact ⟨0, by omega, rfl, by omega⟩
    case round =>
      obtain ⟨k, hk, rfl, hj⟩ := hrel
      have HJ := Lib.hid hj
      clear hj
      by_cases hkN : k < N
      · obtain ⟨y, e1, g1⟩ := HC.out k hkN
        have E1 := Lib.hid e1
        have hkk : (k : Int) < N := by omega
        clear e1
        cases hc : (x == y)
        · have hxx : l.getD k default ≠ x := by rw [E1.out]; intro e; simp at hc; exact hc e.symm
          have HXX := Lib.hid hxx
          clear hxx
          go_wp2_with fail
          go_round
          case rel => exact ⟨k + 1, by omega, by go_num, fun j hj => by
            by_cases h : j = k
            · subst h; exact HXX.out
            · exact HJ.out j (by omega)⟩
          case measure => simp [intOf]; omega
        · have hrr : (k : Int) = r := by
            rw [HR.out]
            symm
            exact idxOf_found (by rw [← HN.out]; exact hkN) (by rw [E1.out]; simp at hc; exact hc.symm) HJ.out
          have HRR := Lib.hid hrr
          clear hrr
          go_wp2_with fail
          go_ret
          exact ⟨ret_int HRR.out, rfl⟩
      · obtain rfl : k = N := by omega
        have hrr : -1 = r := by
          rw [HR.out]
          symm
          exact idxOf_none (by rw [← HN.out]; exact HJ.out)
        subst hrr
        have hd : decide ((k : Int) < k) = false := by simp
        go_wp2_with fail
        go_ret
        exact ⟨rfl, rfl⟩

set_option maxHeartbeats 4000000 in
set_option maxRecDepth 100000 in
theorem containsInts {w : World} {v : Value} {l : List Int} (h : IsInts w v l) (x : Int) (r : Bool) (hr : decide (x ∈ l) = r) :
    Calls Try.prog 38 #[v, .int .i64 x] w fun e w' => e = .returned (.bool r) ∧ w = w' := by
  have HI := Lib.hid (indexInts h x)
  have hd : decide (0 ≤ idxOf l x) = r := by
    rw [← hr]
    unfold idxOf
    by_cases hm : x ∈ l
    · rw [if_pos hm]; simp [hm]
    · rw [if_neg hm]; simp [hm]
  generalize idxOf l x = k at *
  obtain ⟨a1, c1, rfl, p1, p2⟩ := h.shape
  clear h hr
  cases r
  all_goals
    go_enter Try.func38, Try.ntmps38
    go_wp2_with fail
    refine (HI.out).mono ?_
    rintro e w1 ⟨rfl, rfl⟩
    go_wp2_with fail
    go_ret
    exact ⟨rfl, rfl⟩

end Go.Proofs.Ytjknmnmilladlaa
