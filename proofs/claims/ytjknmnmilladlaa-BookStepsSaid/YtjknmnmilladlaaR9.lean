/-
  Walks of the reference (layer 11): find, without, with.
-/
import Derived.Test.YtjknmnmilladlaaR8
namespace Go.Proofs.Ytjknmnmilladlaa
open Go.RowKit

/-- The place of an id; -1: there is none. -/
def FindIs (S : List Slot) (id : Int) (k : Int) : Prop := (k = -1 ∧ ∀ s ∈ S, s.id ≠ id) ∨ ∃ q : Nat, k = q ∧ q < S.length ∧ (S.getD q default).id = id ∧ ∀ j, j < q → (S.getD j default).id ≠ id

set_option maxHeartbeats 4000000 in
set_option maxRecDepth 100000 in
theorem refFind {w : World} {vu vs : Value} {S : List Slot} (n : Int) (h : IsSlots w vs S) (hS : S.length ≤ 9000) (id : Int) :
    Calls Try.prog 49 #[.agg #[.int .i64 n, vu, vs], .int .i64 id] w fun e w' => (∃ k, e = .returned (.int .i64 k) ∧ FindIs S id k) ∧ Below w.heap.size w w' := by
  obtain ⟨N, hN⟩ : ∃ N, N = S.length := ⟨_, rfl⟩
  obtain ⟨a1, c1, hvs, p1, p2⟩ := h.shape
  have q2 := cell_new w #[.int .i64 n, vu, vs] 59 2 rfl
  have hcl : 0 < N → ∃ b off, a1 = some ⟨b, off, none⟩ ∧ b < w.heap.size ∧ ∀ i, i < N → ∃ x, (S.getD i default).id = x ∧ w.cell? ⟨b, off + i * 4, none⟩ = some (.int .i64 x) := by
    intro hp
    obtain ⟨b, off, cap, e, _, _, hb, hc⟩ := slotAtV h (by rw [← hN]; exact hp)
    rw [hvs] at e
    injection e with e1 e2 e3
    refine ⟨b, off, e1, hb, fun i hi => ?_⟩
    obtain ⟨x, y, z, u, e, g0, _⟩ := hc i (by rw [← hN]; exact hi)
    exact ⟨x, by rw [e], g0⟩
  have HCL := Lib.hid hcl
  rw [← hN] at hvs p1 hS
  subst hvs
  have HN := Lib.hid hN
  have hBB := (Below.refl w.heap.size w).alloc (Nat.le_refl _) (.cells #[.int .i64 n, vu, .slice a1 N c1] 59)
  have HBB := Lib.hid hBB
  clear h hN hcl hBB
  go_enter Try.func49, Try.ntmps49
  go_wp2_with fail
  go_loop [5] (fun v5 => ∃ k : Nat, k ≤ N ∧ v5 = .int .i64 k ∧ ∀ j, j < k → (S.getD j default).id ≠ id) (fun v5 => N - (intOf v5).toNat)
  case atStart => exact ⟨0, by omega, rfl, by omega⟩
  case round =>
    obtain ⟨k, hkN, rfl, hj⟩ := hrel
    have HJ := Lib.hid hj
    clear hj
    by_cases hk : k < N
    · obtain ⟨b, off, rfl, hb, hc⟩ := HCL.out (by omega)
      obtain ⟨x, e1, g1⟩ := hc k hk
      have k1 := (HBB.out.cell (p := ⟨b, off + k * 4, none⟩) hb).trans g1
      have hkk : (k : Int) < N := by omega
      have HE1 := Lib.hid e1
      clear g1 e1 hc
      cases hx : (x == id)
      · have hne : x ≠ id := by simpa using hx
        have HNE := Lib.hid hne
        clear hne
        go_wp2_with fail
        go_round
        case rel => exact ⟨k + 1, by omega, by go_num, fun j hj => by
          by_cases h : j = k
          · subst h; rw [HE1.out]; exact HNE.out
          · exact HJ.out j (by omega)⟩
        case measure => simp [intOf]; omega
      · have he : x = id := by simpa using hx
        go_wp2_with fail
        go_ret
        exact ⟨⟨_, rfl, Or.inr ⟨k, rfl, by rw [← HN.out]; exact hk, HE1.out.trans he, HJ.out⟩⟩, HBB.out⟩
    · obtain rfl : k = N := by omega
      have hd : decide ((k : Int) < k) = false := by simp
      go_wp2_with fail
      go_ret
      refine ⟨⟨_, rfl, Or.inl ⟨rfl, fun s hs => ?_⟩⟩, HBB.out⟩
      obtain ⟨i, hi, rfl⟩ := List.getElem_of_mem hs
      have := HJ.out i (by rw [HN.out]; exact hi)
      rw [List.getD_eq_getElem?_getD, List.getElem?_eq_getElem hi] at this
      exact this

end Go.Proofs.Ytjknmnmilladlaa
