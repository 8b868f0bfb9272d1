/-
  Walks: slices.SortStableFunc at steps whose times already rise (the whole of it), and steps.Tidy of such steps.
-/
import Derived.Test.YtjknmnmilladlaaW4
import Derived.Test.YtjknmnmilladlaaW5
namespace Go.Proofs.Ytjknmnmilladlaa
open Go.RowKit

set_option maxHeartbeats 4000000 in
set_option maxRecDepth 100000 in
theorem stableSorted (A F : Nat → Int) (b off cap n : Nat) (w : World) (hn : n ≤ 1000000) (hR : RowA A F b off n w) (hS : ∀ i j, i < j → j < n → A i < A j) :
    Calls Try.prog 102 #[.slice (some ⟨b, off, none⟩) n cap, .int .i64 n, .func (.func 83) #[] #[]] w fun e w' => e = .returned (.tuple #[]) ∧ Below w.heap.size w w' := by
  have HR := Lib.hid hR; clear hR
  have HS := Lib.hid hS; clear hS
  go_enter Try.func102, Try.ntmps102
  go_wp2_with fail
  go_loopw [7, 8] (fun a c wr => ∃ x : Nat, x ≤ n ∧ a = .int .i64 x ∧ c = .int .i64 (x + 20 : Nat) ∧ Below w.heap.size w wr) (fun a _ _ => n + 1 - (intOf a).toNat)
  case atStart => exact ⟨0, by omega, rfl, rfl, Below.refl _ _⟩
  case round =>
    obtain ⟨x, hx, rfl, rfl, hb⟩ := hrel
    by_cases hlt : x + 20 ≤ n
    · have hR := HR.out.below hb HR.out.lt
      have HI := Lib.hid (insSorted A F b off cap n x (x + 20) wr hn hR HS.out (by omega) hlt)
      clear hR
      have HB := Lib.hid hb; clear hb
      go_wp2_with fail
      refine (HI.out).mono ?_
      rintro e w1 ⟨rfl, hb1⟩
      have HB1 := Lib.hid hb1; clear hb1
      go_wp2_with fail
      go_roundw
      case rel => exact ⟨x + 20, by omega, by go_num, by go_num, HB.out.trans (HB1.out.mono HB.out.size)⟩
      case measure => simp [intOf]; omega
    · have hR := HR.out.below hb HR.out.lt
      have HI := Lib.hid (insSorted A F b off cap n x n wr hn hR HS.out hx (Nat.le_refl _))
      clear hR
      have HB := Lib.hid hb; clear hb
      go_wp2_with fail
      refine (HI.out).mono ?_
      rintro e w1 ⟨rfl, hb1⟩
      have hB1 := HB.out.trans (hb1.mono HB.out.size)
      have HB1 := Lib.hid hB1; clear hb1 hB1
      go_wp2_with fail
      go_loopw [6] (fun s wr => ∃ bs : Nat, 0 < bs ∧ bs ≤ 2 * n + 20 ∧ s = .int .i64 bs ∧ Below w.heap.size w wr) (fun s _ => 2 * n + 21 - (intOf s).toNat)
      case atStart => exact ⟨20, by omega, by omega, rfl, HB1.out⟩
      case round =>
        obtain ⟨bs, hbs, hbs2, rfl, hb⟩ := hrel
        by_cases hl2 : bs < n
        · have HB := Lib.hid hb; clear hb
          go_wp2_with fail
          obtain ⟨wo, hwo⟩ : ∃ wo : World, wo = wr := ⟨_, rfl⟩
          subst hwo
          go_loopw [7, 8] (fun a c wr => ∃ z : Nat, z ≤ n ∧ a = .int .i64 z ∧ c = .int .i64 (z + 2 * bs : Nat) ∧ Below w.heap.size w wr) (fun a _ _ => n + 1 - (intOf a).toNat)
          case atStart => exact ⟨0, by omega, rfl, by go_num, HB.out⟩
          case round =>
            obtain ⟨z, hz, rfl, rfl, hb⟩ := hrel
            by_cases hl3 : z + 2 * bs ≤ n
            · have hR := HR.out.below hb HR.out.lt
              have HI := Lib.hid (symAny A F b off cap n hn HS.out (2 * bs) z (z + bs) (z + 2 * bs) wr (by omega) hR (by omega) (by omega) hl3)
              clear hR
              have HB := Lib.hid hb; clear hb
              go_wp2_with fail
              refine (HI.out).mono ?_
              rintro e w1 ⟨rfl, hb1⟩
              have HB1 := Lib.hid hb1; clear hb1
              go_wp2_with fail
              go_roundw
              case rel => exact ⟨z + 2 * bs, by omega, by go_num, by go_num, HB.out.trans (HB1.out.mono HB.out.size)⟩
              case measure => simp [intOf]; omega
            · by_cases hl4 : z + bs < n
              · have hR := HR.out.below hb HR.out.lt
                have HI := Lib.hid (symAny A F b off cap n hn HS.out n z (z + bs) n wr (by omega) hR (by omega) hl4 (Nat.le_refl _))
                clear hR
                have HB := Lib.hid hb; clear hb
                go_wp2_with fail
                refine (HI.out).mono ?_
                rintro e w1 ⟨rfl, hb1⟩
                have HB1 := Lib.hid hb1; clear hb1
                go_wp2_with fail
                go_roundw
                case rel => exact ⟨bs * 2, by omega, by omega, by go_num, HB.out.trans (HB1.out.mono HB.out.size)⟩
                case measure => simp [intOf]; omega
              · have HB := Lib.hid hb; clear hb
                go_wp2_with fail
                go_roundw
                case rel => exact ⟨bs * 2, by omega, by omega, by go_num, HB.out⟩
                case measure => simp [intOf]; omega
        · have HB := Lib.hid hb; clear hb
          go_wp2_with fail
          go_end0
          exact ⟨rfl, HB.out⟩

set_option maxHeartbeats 1000000 in
theorem sortStableSorted (A F : Nat → Int) (b off cap n : Nat) (w : World) (hn : n ≤ 1000000) (hR : RowA A F b off n w) (hS : ∀ i j, i < j → j < n → A i < A j) :
    Calls Try.prog 82 #[.slice (some ⟨b, off, none⟩) n cap, .func (.func 83) #[] #[]] w fun e w' => e = .returned (.tuple #[]) ∧ Below w.heap.size w w' := by
  have HI := Lib.hid (stableSorted A F b off cap n w hn hR hS)
  clear hR hS
  go_enter Try.func82, Try.ntmps82
  go_wp2_with fail
  refine (HI.out).mono ?_
  rintro e w1 ⟨rfl, hb1⟩
  go_wp2_with fail
  go_end0
  exact ⟨rfl, hb1⟩

end Go.Proofs.Ytjknmnmilladlaa
