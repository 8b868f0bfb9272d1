/-
  Walks: clock.Is and steps.Check: what they return, for every reading of their arguments.
-/
import Derived.Test.YtjknmnmilladlaaBase
namespace Go.Proofs.Ytjknmnmilladlaa
open Go.RowKit

def isT (t : Int) : Bool := decide (0 ≤ t ∧ t ≤ 1099511627775)

set_option maxHeartbeats 400000 in
theorem clockIs (t : Int) (w : World) :
    Calls Try.prog 40 #[.int .i64 t] w fun e w' => e = .returned (.bool (isT t)) ∧ w' = w := by
  by_cases h0 : 0 ≤ t
  · go_enter Try.func40, Try.ntmps40
    go_wp2
    all_goals (go_ret; exact ⟨ret_bool (by simp [isT]; omega), rfl⟩)
  · go_enter Try.func40, Try.ntmps40
    go_wp2
    go_ret
    exact ⟨ret_bool (by simp [isT]; omega), rfl⟩
theorem clockIsF (t : Int) (w : World) (h : isT t = false) :
    Calls Try.prog 40 #[.int .i64 t] w fun e w' => e = .returned (.bool false) ∧ w' = w := (clockIs t w).mono fun _ _ ⟨h1, h2⟩ => ⟨by rw [h1, h], h2⟩
theorem clockIsT (t : Int) (w : World) (h : isT t = true) :
    Calls Try.prog 40 #[.int .i64 t] w fun e w' => e = .returned (.bool true) ∧ w' = w := (clockIs t w).mono fun _ _ ⟨h1, h2⟩ => ⟨by rw [h1, h], h2⟩

def stepOk (A F : Nat → Int) (i : Nat) : Bool := isT (A i) && decide (0 ≤ F i) && decide (F i ≤ 10000) && (decide (i = 0) || (decide (A (i-1) < A i) && decide (F i ≠ F (i-1))))
def chkN (A F : Nat → Int) (n : Nat) : Bool := decide (0 < n) && decide (n ≤ 20000) && decide (A 0 = 0) && (List.range n).all (stepOk A F)
def chk (l : List Step) : Bool := chkN (atv l) (frv l) l.length
def errOf (b : Bool) : Int := if b then 0 else 2

theorem errOf_no {A F : Nat → Int} {n k : Nat} (hk : k < n) (h : stepOk A F k = false) : (2 : Int) = errOf (chkN A F n) := by
  have : (List.range n).all (stepOk A F) = false := by
    rw [Bool.eq_false_iff]
    intro h'
    rw [List.all_eq_true] at h'
    rw [h' k (List.mem_range.2 hk)] at h
    exact Bool.noConfusion h
  simp [errOf, chkN, this]
theorem errOf_yes {A F : Nat → Int} {n k : Nat} (hk : k = n) (h0 : 0 < n) (h1 : n ≤ 20000) (hA : A 0 = 0) (h : ∀ j, j < k → stepOk A F j = true) : (0 : Int) = errOf (chkN A F n) := by
  subst hk
  have : (List.range k).all (stepOk A F) = true := by
    rw [List.all_eq_true]
    intro x hx
    exact h x (List.mem_range.1 hx)
  simp [errOf, chkN, this, h0, h1, hA]

set_option maxHeartbeats 1000000 in
theorem check_loop (A F : Nat → Int) (b off cap n : Nat) (w : World) (hn : 0 < n) (hl : n ≤ 20000) (hA0 : A 0 = 0) (hbk : b < w.heap.size)
    (hA : ∀ i, i < n → w.cell? ⟨b, off + i * 2, none⟩ = some (.int .i64 (A i))) (hF : ∀ i, i < n → w.cell? ⟨b, off + i * 2 + 1, none⟩ = some (.int .i64 (F i))) :
    Calls Try.prog 23 #[.slice (some ⟨b, off, none⟩) n cap] w fun e w' => e = .returned (.int .i64 (errOf (chkN A F n))) ∧ Below w.heap.size w w' := by
  have h0 := hA 0 hn
  simp only [Nat.zero_mul, Nat.add_zero, hA0] at h0
  have e0 : ((n : Int) == 0) = false := by simp; omega
  have e1 : decide ((20000 : Int) < n) = false := by simp; omega
  have HA := Lib.hid hA; clear hA
  have HF := Lib.hid hF; clear hF
  have HA0 := Lib.hid hA0; clear hA0
  go_enter Try.func23, Try.ntmps23
  go_wp2_with fail
  go_step3
  go_wp2_with fail
  go_step3
  go_wp2_with fail
  go_loopw [3, 23] (fun ok i wr => ∃ k : Nat, k ≤ n ∧ i = .int .i64 k ∧ ok = .bool true ∧ Below w.heap.size w wr ∧ (∀ j, j < k → stepOk A F j = true)) (fun _ i _ => n - (intOf i).toNat)
  case atStart => exact ⟨0, Nat.zero_le _, rfl, rfl, Below.refl _ _, by omega⟩
  case round =>
    obtain ⟨k, hk, rfl, rfl, hb, hok⟩ := hrel
    have HOK := Lib.hid hok; clear hok
    by_cases hkn : k < n
    · have hAk0 := HA.out k hkn
      have hFk0 := HF.out k hkn
      have hAk : wr.cell? ⟨b, off + k * 2, none⟩ = some (.int .i64 (A k)) := (hb.cell (by exact hbk)).trans hAk0
      have hFk : wr.cell? ⟨b, off + k * 2 + 1, none⟩ = some (.int .i64 (F k)) := (hb.cell (by exact hbk)).trans hFk0
      have hbw : b < wr.heap.size := Nat.lt_of_lt_of_le hbk hb.size
      have hB : Below w.heap.size w (wr.alloc (.cells #[.int .i64 (A k), .int .i64 (F k)] 38)) := hb.alloc hb.size _
      have HB := Lib.hid hB; clear hB hAk0 hFk0
      have hkk : (k : Int) < n := by omega
      cases hc1 : isT (A k)
      · have hs : stepOk A F k = false := by simp [stepOk, hc1]
        have HS := Lib.hid hs; clear hs
        go_wp2_with fail
        go_quiet ((go_at_call 40; exact Calls.quiet_of_same (clockIsF _ _ hc1)))
        go_wp2_with fail
        rw [Exit.noGoto_ret]
        go_ret
        exact ⟨ret_int (errOf_no hkn HS.out), below_drewN HB.out _⟩
      by_cases hc2 : 0 ≤ F k
      rotate_left
      · have hs : stepOk A F k = false := by simp [stepOk, hc1, hc2]
        have hd2 : decide (0 ≤ F k) = false := by simpa using hc2
        have HS := Lib.hid hs; clear hs hc2
        go_wp2_with fail
        go_quiet ((go_at_call 40; exact Calls.quiet_of_same (clockIsT _ _ hc1)))
        go_wp2_with fail
        rw [Exit.noGoto_ret]
        go_ret
        exact ⟨ret_int (errOf_no hkn HS.out), below_drewN HB.out _⟩
      by_cases hc3 : F k ≤ 10000
      rotate_left
      · have hs : stepOk A F k = false := by simp [stepOk, hc1, hc3]
        have hd3 : decide (F k ≤ 10000) = false := by simpa using hc3
        have HS := Lib.hid hs; clear hs hc3
        go_wp2_with fail
        go_quiet ((go_at_call 40; exact Calls.quiet_of_same (clockIsT _ _ hc1)))
        go_wp2_with fail
        rw [Exit.noGoto_ret]
        go_ret
        exact ⟨ret_int (errOf_no hkn HS.out), below_drewN HB.out _⟩
      by_cases hk0 : k = 0
      · have hkz : ((k : Int) == 0) = true := by simp [hk0]
        have hs : stepOk A F k = true := by subst hk0; simp [stepOk, hc1, hc2, hc3]
        have HS := Lib.hid hs; clear hs hk0
        go_wp2_with fail
        go_quiet ((go_at_call 40; exact Calls.quiet_of_same (clockIsT _ _ hc1)))
        go_wp2_with fail
        go_roundw
        case rel => exact ⟨k + 1, by omega, by go_num, rfl, below_drewN HB.out _, fun j hj => by
          by_cases h : j = k
          · subst h; exact HS.out
          · exact HOK.out j (by omega)⟩
        case measure => simp [intOf]; omega
      obtain ⟨p, rfl⟩ : ∃ p, k = p + 1 := ⟨k - 1, by omega⟩
      have hkz : (((p + 1 : Nat) : Int) == 0) = false := by simp; omega
      have hkz' : ((p : Int) + 1 == 0) = false := by simp; omega
      have hAp0 := HA.out p (by omega)
      have hFp0 := HF.out p (by omega)
      have hAp : wr.cell? ⟨b, off + p * 2, none⟩ = some (.int .i64 (A p)) := (hb.cell (by exact hbk)).trans hAp0
      have hFp : wr.cell? ⟨b, off + p * 2 + 1, none⟩ = some (.int .i64 (F p)) := (hb.cell (by exact hbk)).trans hFp0
      clear hAp0 hFp0
      have hpp : (p : Int) < n := by omega
      by_cases hc4 : A p < A (p + 1)
      rotate_left
      · have hs : stepOk A F (p + 1) = false := by simp [stepOk, hc4]
        have hd4 : decide (A p < A (p + 1)) = false := by simpa using hc4
        have HS := Lib.hid hs; clear hs hc4
        go_wp2_with fail
        go_quiet ((go_at_call 40; exact Calls.quiet_of_same (clockIsT _ _ hc1)))
        go_wp2_with fail
        rw [Exit.noGoto_ret]
        go_ret
        exact ⟨ret_int (errOf_no hkn HS.out), below_drewN HB.out _⟩
      by_cases hc5 : F (p + 1) = F p
      · have hs : stepOk A F (p + 1) = false := by simp [stepOk, hc5]
        have hd5 : (F (p + 1) != F p) = false := by simpa using hc5
        have HS := Lib.hid hs; clear hs hc5
        go_wp2_with fail
        go_quiet ((go_at_call 40; exact Calls.quiet_of_same (clockIsT _ _ hc1)))
        go_wp2_with fail
        rw [Exit.noGoto_ret]
        go_ret
        exact ⟨ret_int (errOf_no hkn HS.out), below_drewN HB.out _⟩
      · have hs : stepOk A F (p + 1) = true := by simp [stepOk, hc1, hc2, hc3, hc4, hc5]
        have hd5 : (F (p + 1) != F p) = true := by simpa using hc5
        have HS := Lib.hid hs; clear hs hc5
        go_wp2_with fail
        go_quiet ((go_at_call 40; exact Calls.quiet_of_same (clockIsT _ _ hc1)))
        go_wp2_with fail
        go_roundw
        case rel => exact ⟨p + 1 + 1, by omega, by go_num, rfl, below_drewN HB.out _, fun j hj => by
          by_cases h : j = p + 1
          · subst h; exact HS.out
          · exact HOK.out j (by omega)⟩
        case measure => simp [intOf]; omega
    · go_wp2_with fail
      rw [Exit.noGoto_ret]
      go_ret
      exact ⟨ret_int (errOf_yes (by omega) hn hl HA0.out HOK.out), hb⟩

end Go.Proofs.Ytjknmnmilladlaa
