/-
  Walks: steps.New, steps.At.
-/
import Derived.Test.YtjknmnmilladlaaW9
namespace Go.Proofs.Ytjknmnmilladlaa
open Go.RowKit

set_option maxHeartbeats 1000000 in
theorem stepsNewNo (n : Int) (w : World) (h : n < 0 ∨ 10000 < n) :
    Calls Try.prog 31 #[.int .i64 n] w fun e w' => e = .returned (.tuple #[.slice none 0 0, .int .i64 2]) ∧ w = w' := by
  rcases Int.lt_or_le n 0 with h1 | h1
  · have hd : decide (n < 0) = true := by simpa using h1
    go_enter Try.func31, Try.ntmps31
    go_wp2
    go_ret2
    exact ⟨rfl, rfl⟩
  · have hd : decide (n < 0) = false := by simpa using h1
    have hd2 : decide (10000 < n) = true := by simp; omega
    go_enter Try.func31, Try.ntmps31
    go_wp2
    go_ret2
    exact ⟨rfl, rfl⟩

set_option maxHeartbeats 1000000 in
theorem stepsNewYes (n : Int) (w : World) (h : 0 ≤ n) (h2 : n ≤ 10000) :
    Calls Try.prog 31 #[.int .i64 n] w fun e w' => (∃ v, e = .returned (.tuple #[v, .int .i64 0]) ∧ OwnSteps w' w.heap.size v [⟨0, n⟩]) ∧ Below w.heap.size w w' := by
  have hd : decide (n < 0) = false := by simpa using h
  have hd2 : decide (10000 < n) = false := by simpa using h2
  go_enter Try.func31, Try.ntmps31
  go_wp2
  go_ret2
  refine ⟨⟨_, rfl, ?_⟩, (Below.refl _ _).alloc (Nat.le_refl _) _⟩
  exact World.ownsRow_lit (e := 38) (size := 2) w #[.int .i64 0, .int .i64 n] 1 (Nat.le_refl _) (by unfold maxLen; omega) rfl

def atOf (l : List Step) (t : Int) : Int := if chk l = true ∧ isT t = true then val l t else 0

set_option maxHeartbeats 1000000 in
theorem atAny {w : World} {v : Value} {l : List Step} (h : IsSteps w v l) (t : Int) :
    Calls Try.prog 21 #[v, .int .i64 t] w fun e w' => e = .returned (.int .i64 (atOf l t)) ∧ Below w.heap.size w w' := by
  have HC := Lib.hid (checkAny h)
  cases hc : chk l
  · rw [hc] at HC
    have ha : atOf l t = 0 := by simp [atOf, hc]
    rw [ha]
    have e0 : errOf false = 2 := rfl
    clear ha hc h
    go_enter Try.func21, Try.ntmps21
    go_wp2_with fail
    refine (HC.out).mono ?_
    rintro e w1 ⟨rfl, hb1⟩
    have HB := Lib.hid hb1; clear hb1
    go_wp2_with fail
    go_ret
    exact ⟨rfl, HB.out⟩
  · rw [hc] at HC
    have e0 : errOf true = 0 := rfl
    cases ht : isT t
    · have ha : atOf l t = 0 := by simp [atOf, ht]
      rw [ha]
      clear ha hc h
      go_enter Try.func21, Try.ntmps21
      go_wp2_with fail
      refine (HC.out).mono ?_
      rintro e w1 ⟨rfl, hb1⟩
      have HB := Lib.hid hb1; clear hb1
      go_wp2_with fail
      refine (clockF t _ ht).mono ?_
      rintro e w2 ⟨rfl, rfl⟩
      go_wp2_with fail
      go_ret
      exact ⟨rfl, HB.out⟩
    · have hv := chk_iff.1 hc
      have htt := isT_iff.1 ht
      have ha : atOf l t = val l t := by simp [atOf, hc, ht]
      have HA := Lib.hid ha
      have HV := Lib.hid hv
      have HH := Lib.hid h
      obtain ⟨b, off, cap, rfl, hnc, hcap, hbw, hA, hF, hRow⟩ := h.cells hv.pos
      have HF := Lib.hid hF
      have hp := (hv.plc htt.1).1
      clear ha hc h hv hA hRow hF
      go_enter Try.func21, Try.ntmps21
      go_wp2_with fail
      refine (HC.out).mono ?_
      rintro e w1 ⟨rfl, hb1⟩
      have hpl := placeAny (HH.out.below hb1) HV.out t htt.1 htt.2
      generalize hpe : plc l t = p at *
      have HPE := Lib.hid hpe
      have HPL := Lib.hid hpl
      have HB := Lib.hid hb1
      have hbw1 : b < w1.heap.size := Nat.lt_of_lt_of_le hbw hb1.size
      clear hb1 hpe hpl
      generalize hn : l.length = n at *
      clear hn
      go_wp2_with fail
      refine (clockT t _ ht).mono ?_
      rintro e w2 ⟨rfl, rfl⟩
      go_wp2_with fail
      refine (HPL.out).mono ?_
      rintro e w3 ⟨rfl, hb3⟩
      have hpn : (p : Int) < n := by omega
      obtain ⟨fp, hfp⟩ : ∃ fp, fp = frv l p := ⟨_, rfl⟩
      have c1 : w3.cell? ⟨b, off + p * 2 + 1, none⟩ = some (.int .i64 fp) := by rw [hfp]; exact (hb3.cell (by exact hbw1)).trans ((HB.out.cell (by exact hbw)).trans (HF.out _ hp))
      have HFP := Lib.hid hfp
      have HB3 := Lib.hid hb3
      clear hfp hb3
      go_wp2_with fail
      go_ret
      refine ⟨ret_int ?_, HB.out.trans (HB3.out.mono HB.out.size)⟩
      rw [HA.out, HFP.out]
      unfold val
      rw [HPE.out]

end Go.Proofs.Ytjknmnmilladlaa
