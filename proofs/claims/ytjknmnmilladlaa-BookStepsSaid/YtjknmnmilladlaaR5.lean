/-
  Walks of the reference (layer 11): taken, Times.
-/
import Derived.Test.YtjknmnmilladlaaR4
namespace Go.Proofs.Ytjknmnmilladlaa
open Go.RowKit

theorem loadOf_take {S : List Slot} {j : Nat} (h : j < S.length) (t : Int) : loadOf (S.take (j + 1)) t = loadOf (S.take j) t + covS t (S.getD j default) := by
  rw [List.take_succ_eq_append_getElem h, loadOf_snoc, List.getD_eq_getElem?_getD, List.getElem?_eq_getElem h]
  rfl
theorem IsSlots.shape {w : World} {v : Value} {l : List Slot} (h : IsSlots w v l) : ∃ ao cap, v = .slice ao l.length cap ∧ l.length ≤ cap ∧ cap ≤ 9223372036854775807 := by
  obtain ⟨_, ao, cap, rfl, h1, h2, _⟩ := h
  unfold maxLen at h2
  exact ⟨ao, cap, rfl, h1, h2⟩

set_option maxHeartbeats 4000000 in
set_option maxRecDepth 100000 in
theorem refTaken {w : World} {vu vs : Value} {S : List Slot} (n : Int) (h : IsSlots w vs S) (hS : S.length ≤ 9000) (hk : ∀ s ∈ S, 1 ≤ s.nodes ∧ s.nodes ≤ 10000) (t : Int) :
    Calls Try.prog 71 #[.agg #[.int .i64 n, vu, vs], .int .i64 t] w fun e w' => e = .returned (.int .i64 (loadOf S t)) ∧ Below w.heap.size w w' := by
  obtain ⟨N, hN⟩ : ∃ N, N = S.length := ⟨_, rfl⟩
  obtain ⟨r, hr⟩ : ∃ r, r = loadOf S t := ⟨_, rfl⟩
  rw [← hr]
  obtain ⟨a1, c1, hvs, p1, p2⟩ := h.shape
  have HSH := Lib.hid h
  have q2 := cell_new w #[.int .i64 n, vu, vs] 59 2 rfl
  have hcl : 0 < N → ∃ b off, a1 = some ⟨b, off, none⟩ ∧ b < w.heap.size ∧ ∀ i, i < N → ∃ x y z u, S.getD i default = ⟨x, y, z, u⟩ ∧ w.cell? ⟨b, off + i * 4 + 1, none⟩ = some (.int .i64 y) ∧ w.cell? ⟨b, off + i * 4 + 2, none⟩ = some (.int .i64 z) ∧ w.cell? ⟨b, off + i * 4 + 3, none⟩ = some (.int .i64 u) := by
    intro hp
    obtain ⟨b, off, cap, e, _, _, hb, hc⟩ := slotAtV h (by rw [← hN]; exact hp)
    rw [hvs] at e
    injection e with e1 e2 e3
    refine ⟨b, off, e1, hb, fun i hi => ?_⟩
    obtain ⟨x, y, z, u, e, _, g1, g2, g3⟩ := hc i (by rw [← hN]; exact hi)
    exact ⟨x, y, z, u, e, g1, g2, g3⟩
  have HCL := Lib.hid hcl
  rw [← hN] at hvs p1 hS
  subst hvs
  have HR := Lib.hid hr
  have HN := Lib.hid hN
  have HK := Lib.hid hk
  have hBB := (Below.refl w.heap.size w).alloc (Nat.le_refl _) (.cells #[.int .i64 n, vu, .slice a1 N c1] 59)
  have HBB := Lib.hid hBB
  have hlt : w.heap.size < (w.alloc (.cells #[.int .i64 n, vu, .slice a1 N c1] 59)).heap.size := by simp
  clear h hr hN hk hcl hBB
  go_enter Try.func71, Try.ntmps71
  go_wp2_with fail
  go_loop [5, 6] (fun v5 v6 => ∃ k : Nat, k ≤ N ∧ v6 = .int .i64 k ∧ v5 = .int .i64 (loadOf (S.take k) t)) (fun _ v6 => N - (intOf v6).toNat)
  case atStart => exact ⟨0, by omega, rfl, rfl⟩
  case round =>
    obtain ⟨k, hkN, rfl, rfl⟩ := hrel
    by_cases hk : k < N
    · obtain ⟨b, off, rfl, hb, hc⟩ := HCL.out (by omega)
      obtain ⟨x, y, z, u, e1, g1, g2, g3⟩ := hc k hk
      have k1 := (HBB.out.cell (p := ⟨b, off + k * 4 + 1, none⟩) hb).trans g1
      have k2 := (HBB.out.cell (p := ⟨b, off + k * 4 + 2, none⟩) hb).trans g2
      have k3 := (HBB.out.cell (p := ⟨b, off + k * 4 + 3, none⟩) hb).trans g3
      have hkk : (k : Int) < N := by omega
      have hks : k < S.length := by rw [← HN.out]; exact hk
      have hnx := loadOf_take hks t
      rw [e1] at hnx
      unfold covS at hnx
      simp only at hnx
      have hb1 := loadOf_bound (L := S.take k) (fun s hs => HK.out s (List.mem_of_mem_take hs)) t
      rw [List.length_take] at hb1
      have hu : 1 ≤ u ∧ u ≤ 10000 := by
        have := HK.out S[k] (List.getElem_mem hks)
        rw [List.getD_eq_getElem?_getD, List.getElem?_eq_getElem hks] at e1
        simp at e1
        rw [e1] at this
        exact this
      have hmn : min k S.length ≤ 9000 := by omega
      have hb2 : 0 ≤ loadOf (S.take k) t ∧ loadOf (S.take k) t ≤ 90000000 := ⟨hb1.1, by have := hb1.2; omega⟩
      generalize loadOf (S.take k) t = ld at *
      have hwr : IntKind.i64.wrap (ld + u) = ld + u := small_wrap (by omega) (by omega)
      have HNX := Lib.hid hnx
      clear g1 g2 g3 e1 hc hnx hb1 hks hmn
      by_cases hy : y ≤ t
      · by_cases hz : t < z
        · go_wp2_with fail
          go_round
          case rel => exact ⟨k + 1, by omega, by go_num, by rw [HNX.out, if_pos ⟨hy, hz⟩]⟩
          case measure => simp [intOf]; omega
        · have dz : decide (t < z) = false := by simpa using hz
          go_wp2_with fail
          go_round
          case rel => exact ⟨k + 1, by omega, by go_num, by rw [HNX.out, if_neg (fun h => hz h.2), Int.add_zero]⟩
          case measure => simp [intOf]; omega
      · have dy : decide (y ≤ t) = false := by simpa using hy
        go_wp2_with fail
        go_round
        case rel => exact ⟨k + 1, by omega, by go_num, by rw [HNX.out, if_neg (fun h => hy h.1), Int.add_zero]⟩
        case measure => simp [intOf]; omega
    · obtain rfl : k = N := by omega
      have hd : decide ((k : Int) < k) = false := by simp
      have hall : S.take k = S := by rw [List.take_of_length_le]; rw [HN.out]; exact Nat.le_refl _
      rw [hall, ← HR.out]
      clear hall
      go_wp2_with fail
      go_ret
      exact ⟨rfl, HBB.out⟩

end Go.Proofs.Ytjknmnmilladlaa
