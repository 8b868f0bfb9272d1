/-
  Walks: slices.SortStableFunc at steps whose times already rise: nothing is moved.
-/
import Derived.Test.YtjknmnmilladlaaReg
namespace Go.Proofs.Ytjknmnmilladlaa
open Go.RowKit

set_option maxHeartbeats 400000 in
theorem tcmpGt (a f a' f' : Int) (h : a' < a) (w : World) :
    Calls Try.prog 83 #[.agg #[.int .i64 a, .int .i64 f], .agg #[.int .i64 a', .int .i64 f']] w fun e w' => e = .returned (.int .i64 1) ∧ Below w.heap.size w w' := by
  have h1 : decide (a < a') = false := by simp; omega
  go_enter Try.func83, Try.ntmps83
  go_wp2
  go_ret
  exact ⟨rfl, ((Below.refl _ _).alloc (Nat.le_refl _) _).alloc (by simp) _⟩

set_option maxHeartbeats 1000000 in
theorem insSorted (A F : Nat → Int) (b off cap n x y : Nat) (w : World) (hn : n ≤ 1000000) (hR : RowA A F b off n w) (hS : ∀ i j, i < j → j < n → A i < A j) (hx : x ≤ n) (hy : y ≤ n) :
    Calls Try.prog 108 #[.slice (some ⟨b, off, none⟩) n cap, .int .i64 x, .int .i64 y, .func (.func 83) #[] #[]] w fun e w' => e = .returned (.tuple #[]) ∧ Below w.heap.size w w' := by
  have HR := Lib.hid hR; clear hR
  have HS := Lib.hid hS; clear hS
  go_enter Try.func108, Try.ntmps108
  go_wp2_with fail
  go_loopw [8] (fun i wr => ∃ k : Nat, x < k ∧ k ≤ n + 1 ∧ i = .int .i64 k ∧ Below w.heap.size w wr) (fun i _ => n + 2 - (intOf i).toNat)
  case atStart => exact ⟨x + 1, by omega, by omega, by go_num, Below.refl _ _⟩
  case round =>
    obtain ⟨k, hxk, hkn, rfl, hb⟩ := hrel
    by_cases hky : k < y
    · obtain ⟨q, rfl⟩ : ∃ q, k = q + 1 := ⟨k - 1, by omega⟩
      have hR := HR.out.below hb HR.out.lt
      have hbw := hR.lt
      have hlt := HS.out q (q + 1) (by omega) (by omega)
      have c1 := After.cell hbw (hR.at_ (q + 1) (by omega))
      have c2 := After.cell hbw (hR.fr (q + 1) (by omega))
      have c3 := After.cell hbw (hR.at_ q (by omega))
      have c4 := After.cell hbw (hR.fr q (by omega))
      clear hR
      have hd1 : decide ((x : Int) < (q : Int) + 1) = true := by simp; omega
      have HB := Lib.hid hb; clear hb
      go_wp2_with fail
      refine wp_loop_once ?_
      go_wp2_with fail
      refine wp_region_quiet_after (by kernel_rfl) (by kernel_rfl) ?_
      repeat (go_big_quiet_step ((go_at_call 83; exact after_of (tcmpGt _ _ _ _ hlt _))))
      refine wpQuiet_nil ?_
      intro wq hC
      have hwq := after_out hC
      clear hC
      have HQ := Lib.hid hwq; clear hwq
      go_wp2_with fail
      go_roundw
      case rel => exact ⟨q + 1 + 1, by omega, by omega, by go_num, HB.out.trans (HQ.out.mono HB.out.size)⟩
      case measure => simp [intOf]; omega
    · have HB := Lib.hid hb; clear hb
      go_wp2_with fail
      go_end0
      exact ⟨rfl, HB.out⟩

def SymC (b off cap n : Nat) (x m y : Nat) (w : World) : Prop :=
  Calls Try.prog 109 #[.slice (some ⟨b, off, none⟩) n cap, .int .i64 x, .int .i64 m, .int .i64 y, .func (.func 83) #[] #[]] w fun e w' => e = .returned (.tuple #[]) ∧ Below w.heap.size w w'

set_option maxHeartbeats 4000000 in
set_option maxRecDepth 100000 in
/-- one element ahead of m -/
theorem symOneA (A F : Nat → Int) (b off cap n x m y : Nat) (w : World) (hn : n ≤ 1000000) (hR : RowA A F b off n w) (hS : ∀ i j, i < j → j < n → A i < A j) (hxm : m = x + 1) (hmy : m < y) (hy : y ≤ n) : SymC b off cap n x m y w := by
  unfold SymC
  have HR := Lib.hid hR; clear hR
  have HS := Lib.hid hS; clear hS
  have e1 : ((m : Int) - (x : Int) == 1) = true := by simp; omega
  have e2 : decide ((x : Int) < (m : Int) - 1) = false := by simp; omega
  have hx1 : x < m := by omega
  have HXM := Lib.hid hxm; clear hxm
  go_enter Try.func109, Try.ntmps109
  go_wp2_with fail
  go_loopw [10, 11] (fun i j wr => ∃ z : Nat, m ≤ z ∧ z ≤ y ∧ i = .int .i64 m ∧ j = .int .i64 z ∧ Below w.heap.size w wr) (fun _ j _ => (intOf j).toNat)
  case atStart => exact ⟨y, by omega, by omega, rfl, rfl, Below.refl _ _⟩
  case round =>
    obtain ⟨z, hmz, hzy, rfl, rfl, hb⟩ := hrel
    by_cases hlt : m < z
    · have hR := HR.out.below hb HR.out.lt
      have hbw := hR.lt
      obtain ⟨h, hh⟩ : ∃ h, h = (m + z) / 2 := ⟨_, rfl⟩
      have hh1 : m ≤ h := by omega
      have hh2 : h < z := by omega
      have hA := HS.out x h (by omega) (by omega)
      have c1 := After.cell hbw (hR.at_ h (by omega))
      have c2 := After.cell hbw (hR.fr h (by omega))
      have c3 := After.cell hbw (hR.at_ x (by omega))
      have c4 := After.cell hbw (hR.fr x (by omega))
      have hxn : (x : Int) < n := by omega
      have hhn : (h : Int) < n := by omega
      clear hR
      have HB := Lib.hid hb; clear hb
      have eh : ((m : Int) + z) / 2 = (h : Int) := by omega
      clear hh
      go_wp2_with fail
      refine wp_region_quiet_after (by kernel_rfl) (by kernel_rfl) ?_
      repeat (go_big_quiet_step ((go_at_call 83; exact after_of (tcmpGt _ _ _ _ hA _))))
      refine wpQuiet_nil ?_
      intro wq hC
      have hwq := after_out hC
      clear hC
      have HQ := Lib.hid hwq; clear hwq
      go_wp2_with fail
      go_roundw
      case rel => exact ⟨h, by omega, by omega, rfl, rfl, HB.out.trans (HQ.out.mono HB.out.size)⟩
      case measure => simp [intOf]; omega
    · have HB := Lib.hid hb; clear hb
      go_wp2_with fail
      refine wp_loop_once ?_
      go_wp2_with fail
      refine bodyPost_ret (results_none rfl _ _ _) rfl ?_
      exact ⟨rfl, HB.out⟩

set_option maxHeartbeats 4000000 in
set_option maxRecDepth 100000 in
/-- one element from m on -/
theorem symOneB (A F : Nat → Int) (b off cap n x m y : Nat) (w : World) (hn : n ≤ 1000000) (hR : RowA A F b off n w) (hS : ∀ i j, i < j → j < n → A i < A j) (hxm : x + 1 < m) (hmy : y = m + 1) (hy : y ≤ n) : SymC b off cap n x m y w := by
  unfold SymC
  have HR := Lib.hid hR; clear hR
  have HS := Lib.hid hS; clear hS
  have e1 : ((m : Int) - (x : Int) == 1) = false := by simp; omega
  have e2 : ((y : Int) - (m : Int) == 1) = true := by simp; omega
  have hmn : m < n := by omega
  have HMY := Lib.hid hmy; clear hmy
  go_enter Try.func109, Try.ntmps109
  go_wp2_with fail
  go_loopw [14, 15] (fun i j wr => ∃ z : Nat, x ≤ z ∧ z ≤ m ∧ i = .int .i64 z ∧ j = .int .i64 m ∧ Below w.heap.size w wr) (fun i _ _ => m - (intOf i).toNat)
  case atStart => exact ⟨x, by omega, by omega, rfl, rfl, Below.refl _ _⟩
  case round =>
    obtain ⟨z, hmz, hzy, rfl, rfl, hb⟩ := hrel
    by_cases hlt : z < m
    · have hR := HR.out.below hb HR.out.lt
      have hbw := hR.lt
      obtain ⟨h, hh⟩ : ∃ h, h = (z + m) / 2 := ⟨_, rfl⟩
      have hh1 : z ≤ h := by omega
      have hh2 : h < m := by omega
      have hA := HS.out h m (by omega) (by omega)
      have c1 := After.cell hbw (hR.at_ h (by omega))
      have c2 := After.cell hbw (hR.fr h (by omega))
      have c3 := After.cell hbw (hR.at_ m (by omega))
      have c4 := After.cell hbw (hR.fr m (by omega))
      have hxn : (m : Int) < n := by omega
      have hhn : (h : Int) < n := by omega
      clear hR
      have HB := Lib.hid hb; clear hb
      have eh : ((z : Int) + m) / 2 = (h : Int) := by omega
      clear hh
      go_wp2_with fail
      refine wp_region_quiet_after (by kernel_rfl) (by kernel_rfl) ?_
      repeat (go_big_quiet_step ((go_at_call 83; exact after_of (tcmpGt _ _ _ _ hA _))))
      refine wpQuiet_nil ?_
      intro wq hC
      have hwq := after_out hC
      clear hC
      have HQ := Lib.hid hwq; clear hwq
      go_wp2_with fail
      go_roundw
      case rel => exact ⟨h + 1, by omega, by omega, by go_num, rfl, HB.out.trans (HQ.out.mono HB.out.size)⟩
      case measure => simp [intOf]; omega
    · obtain rfl : z = m := by omega
      have HB := Lib.hid hb; clear hb
      go_wp2_with fail
      refine wp_loop_once ?_
      go_wp2_with fail
      refine bodyPost_ret (results_none rfl _ _ _) rfl ?_
      exact ⟨rfl, HB.out⟩

set_option maxHeartbeats 8000000 in
set_option maxRecDepth 100000 in
/-- two elements and more on either side: it comes to itself, or is done -/
theorem symAny (A F : Nat → Int) (b off cap n : Nat) (hn : n ≤ 1000000) (hS : ∀ i j, i < j → j < n → A i < A j) :
    ∀ (N x m y : Nat) (w : World), y - x ≤ N → RowA A F b off n w → x < m → m < y → y ≤ n → SymC b off cap n x m y w := by
  intro N
  induction N with
  | zero => intro x m y w h1 _ h2 h3; omega
  | succ N ih =>
    intro x m y w hN hR hxm hmy hy
    by_cases h1 : m = x + 1
    · exact symOneA A F b off cap n x m y w hn hR hS h1 hmy hy
    by_cases h2 : y = m + 1
    · exact symOneB A F b off cap n x m y w hn hR hS (by omega) h2 hy
    unfold SymC
    have IH := Lib.hid ih; clear ih
    have HR := Lib.hid hR; clear hR
    have HS := Lib.hid hS; clear hS
    have e1 : ((m : Int) - (x : Int) == 1) = false := by simp; omega
    have e2 : ((y : Int) - (m : Int) == 1) = false := by simp; omega
    obtain ⟨mid, hmid⟩ : ∃ mid, mid = (x + y) / 2 := ⟨_, rfl⟩
    have hm1 : x + 2 ≤ mid := by omega
    have hm2 : mid + 2 ≤ y := by omega
    have hm3 : 2 * mid ≤ x + y := by omega
    have hm4 : x + y ≤ 2 * mid + 1 := by omega
    have emid : ((x : Int) + y) / 2 = (mid : Int) := by omega
    clear h1 h2 hmid
    by_cases hc : mid < m
    · have hd1 : decide ((mid : Int) < m) = true := by simp; omega
      obtain ⟨s0, hs0⟩ : ∃ s0, s0 + y = mid + m := ⟨mid + m - y, by omega⟩
      have hs1 : x ≤ s0 := by omega
      have hs2 : s0 ≤ mid := by omega
      have es0 : (mid : Int) + m - y = (s0 : Int) := by omega
      have HS0 := Lib.hid hs0; clear hs0
      go_enter Try.func109, Try.ntmps109
      go_wp2_with fail
      go_loopw [20, 21] (fun i j wr => ∃ z : Nat, s0 ≤ z ∧ z ≤ mid ∧ i = .int .i64 z ∧ j = .int .i64 mid ∧ Below w.heap.size w wr) (fun i _ _ => mid - (intOf i).toNat)
      case atStart => exact ⟨s0, by omega, by omega, rfl, rfl, Below.refl _ _⟩
      case round =>
        obtain ⟨z, hmz, hzy, rfl, rfl, hb⟩ := hrel
        by_cases hlt : z < mid
        · have hR := HR.out.below hb HR.out.lt
          have hbw := hR.lt
          obtain ⟨h, hh⟩ : ∃ h, h = (z + mid) / 2 := ⟨_, rfl⟩
          have hh1 : z ≤ h := by omega
          have hh2 : h < mid := by omega
          obtain ⟨d, hd⟩ : ∃ d, d + h + 1 = mid + m := ⟨mid + m - 1 - h, by omega⟩
          have hs0' := HS0.out
          have hdn : d < n := by omega
          have hA := HS.out h d (by omega) hdn
          have c1 := After.cell hbw (hR.at_ h (by omega))
          have c2 := After.cell hbw (hR.fr h (by omega))
          have c3 := After.cell hbw (hR.at_ d hdn)
          have c4 := After.cell hbw (hR.fr d hdn)
          have hxn : (d : Int) < n := by omega
          have hhn : (h : Int) < n := by omega
          clear hR hs0'
          have HB := Lib.hid hb; clear hb
          have eh : ((z : Int) + mid) / 2 = (h : Int) := by omega
          have ed : (mid : Int) + m - 1 - h = (d : Int) := by omega
          have HD := Lib.hid hd; clear hh hd
          go_wp2_with fail
          refine wp_region_quiet_after (by kernel_rfl) (by kernel_rfl) ?_
          repeat (go_big_quiet_step ((go_at_call 83; exact after_of (tcmpGt _ _ _ _ hA _))))
          refine wpQuiet_nil ?_
          intro wq hC
          have hwq := after_out hC
          clear hC
          have HQ := Lib.hid hwq; clear hwq
          go_wp2_with fail
          go_roundw
          case rel => exact ⟨h + 1, by omega, by omega, by go_num, rfl, HB.out.trans (HQ.out.mono HB.out.size)⟩
          case measure => simp [intOf]; omega
        · obtain rfl : z = mid := by omega
          have hR := HR.out.below hb HR.out.lt
          have HI := Lib.hid (IH.out z m y wr (by omega) hR (by omega) hmy hy)
          clear hR
          have HB := Lib.hid hb; clear hb
          have ez : (z : Int) + m - z = (m : Int) := by omega
          have hd2 : decide ((m : Int) < m) = false := by simp
          have hd3 : decide ((x : Int) < z) = true := by simp; omega
          have hd4 : decide ((z : Int) < z) = false := by simp
          have hd5 : decide ((m : Int) < y) = true := by simp; omega
          go_wp2_with fail
          refine (HI.out).mono ?_
          rintro e w1 ⟨rfl, hb1⟩
          have HB1 := Lib.hid hb1; clear hb1
          go_wp2_with fail
          go_end0
          exact ⟨rfl, HB.out.trans (HB1.out.mono HB.out.size)⟩
    · have hd1 : decide ((mid : Int) < m) = false := by simp; omega
      go_enter Try.func109, Try.ntmps109
      go_wp2_with fail
      go_loopw [20, 21] (fun i j wr => ∃ z : Nat, x ≤ z ∧ z ≤ m ∧ i = .int .i64 z ∧ j = .int .i64 m ∧ Below w.heap.size w wr) (fun i _ _ => m - (intOf i).toNat)
      case atStart => exact ⟨x, by omega, by omega, rfl, rfl, Below.refl _ _⟩
      case round =>
        obtain ⟨z, hmz, hzy, rfl, rfl, hb⟩ := hrel
        by_cases hlt : z < m
        · have hR := HR.out.below hb HR.out.lt
          have hbw := hR.lt
          obtain ⟨h, hh⟩ : ∃ h, h = (z + m) / 2 := ⟨_, rfl⟩
          have hh1 : z ≤ h := by omega
          have hh2 : h < m := by omega
          obtain ⟨d, hd⟩ : ∃ d, d + h + 1 = mid + m := ⟨mid + m - 1 - h, by omega⟩
          have hdn : d < n := by omega
          have hA := HS.out h d (by omega) hdn
          have c1 := After.cell hbw (hR.at_ h (by omega))
          have c2 := After.cell hbw (hR.fr h (by omega))
          have c3 := After.cell hbw (hR.at_ d hdn)
          have c4 := After.cell hbw (hR.fr d hdn)
          have hxn : (d : Int) < n := by omega
          have hhn : (h : Int) < n := by omega
          clear hR
          have HB := Lib.hid hb; clear hb
          have eh : ((z : Int) + m) / 2 = (h : Int) := by omega
          have ed : (mid : Int) + m - 1 - h = (d : Int) := by omega
          have HD := Lib.hid hd; clear hh hd
          go_wp2_with fail
          refine wp_region_quiet_after (by kernel_rfl) (by kernel_rfl) ?_
          repeat (go_big_quiet_step ((go_at_call 83; exact after_of (tcmpGt _ _ _ _ hA _))))
          refine wpQuiet_nil ?_
          intro wq hC
          have hwq := after_out hC
          clear hC
          have HQ := Lib.hid hwq; clear hwq
          go_wp2_with fail
          go_roundw
          case rel => exact ⟨h + 1, by omega, by omega, by go_num, rfl, HB.out.trans (HQ.out.mono HB.out.size)⟩
          case measure => simp [intOf]; omega
        · obtain rfl : z = m := by omega
          have hR := HR.out.below hb HR.out.lt
          have ez : (mid : Int) + z - z = (mid : Int) := by omega
          have hd2 : decide ((z : Int) < z) = false := by simp
          have hd3 : decide ((x : Int) < z) = true := by simp; omega
          have hd4 : decide ((mid : Int) < mid) = false := by simp
          by_cases hlast : z < mid
          · have HI := Lib.hid (IH.out x z mid wr (by omega) hR hxm hlast (by omega))
            have hd5 : decide ((z : Int) < mid) = true := by simp; omega
            clear hR
            have HB := Lib.hid hb; clear hb
            go_wp2_with fail
            refine (HI.out).mono ?_
            rintro e w1 ⟨rfl, hb1⟩
            have HB1 := Lib.hid hb1; clear hb1
            go_wp2_with fail
            go_end0
            exact ⟨rfl, HB.out.trans (HB1.out.mono HB.out.size)⟩
          · have hd5 : decide ((z : Int) < mid) = false := by simp; omega
            clear hR
            have HB := Lib.hid hb; clear hb
            go_wp2_with fail
            go_end0
            exact ⟨rfl, HB.out⟩

end Go.Proofs.Ytjknmnmilladlaa
