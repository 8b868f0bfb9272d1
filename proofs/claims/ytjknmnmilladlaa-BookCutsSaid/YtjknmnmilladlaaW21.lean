/-
  Walks: the book's Out: bad numbers.
-/
import Derived.Test.YtjknmnmilladlaaP12
namespace Go.Proofs.Ytjknmnmilladlaa
open Go.RowKit

set_option maxHeartbeats 4000000 in
set_option maxRecDepth 100000 in
theorem outNil (frm to k : Int) (w : World) : Calls Try.prog 24 #[.pointer none, .int .i64 frm, .int .i64 to, .int .i64 k] w fun e w' => e = .returned (.tuple #[.slice none 0 0, .int .i64 1]) ∧ Below w.heap.size w w' := by
  go_enter Try.func24, Try.ntmps24
  go_wp2_with fail
  go_step3
  go_wp2_with fail
  rw [Exit.noGoto_ret]
  go_ret2
  exact ⟨rfl, Below.refl _ _⟩

def outArg (n frm to k : Int) : Bool := isT frm && isT to && decide (frm < to) && decide (1 ≤ k) && decide (k ≤ n)

set_option maxHeartbeats 4000000 in
set_option maxRecDepth 100000 in
theorem outBad {w : World} {bk bm : Nat} {n : Int} {up fr : List Step} {L : List Slot} (h : BookIs w bk bm n up fr L) (frm to k : Int) (hb : outArg n frm to k = false) :
    Calls Try.prog 24 #[.pointer (some ⟨bk, 0, none⟩), .int .i64 frm, .int .i64 to, .int .i64 k] w fun e w' => e = .returned (.tuple #[.slice none 0 0, .int .i64 2]) ∧ Below w.heap.size w w' := by
  have c0 := h.c0
  clear h
  have hcases : isT frm = false ∨ (isT frm = true ∧ isT to = false) ∨ (isT frm = true ∧ isT to = true ∧ to ≤ frm) ∨ (isT frm = true ∧ isT to = true ∧ frm < to ∧ k < 1) ∨ (isT frm = true ∧ isT to = true ∧ frm < to ∧ 1 ≤ k ∧ n < k) := by
    unfold outArg at hb
    cases h1 : isT frm
    · exact .inl rfl
    cases h2 : isT to
    · exact .inr (.inl ⟨rfl, rfl⟩)
    simp [h1, h2] at hb
    rcases Int.lt_or_le frm to with h3 | h3
    · rcases Int.lt_or_le k 1 with h4 | h4
      · exact .inr (.inr (.inr (.inl ⟨rfl, rfl, h3, h4⟩)))
      · exact .inr (.inr (.inr (.inr ⟨rfl, rfl, h3, h4, hb h3 h4⟩)))
    · exact .inr (.inr (.inl ⟨rfl, rfl, h3⟩))
  clear hb
  rcases hcases with h1 | ⟨h1, h2⟩ | ⟨h1, h2, h3⟩ | ⟨h1, h2, h3, h4⟩ | ⟨h1, h2, h3, h4, h5⟩
  · have K1 := Lib.hid h1
    clear h1
    go_enter Try.func24, Try.ntmps24
    go_wp2_with fail
    go_step3
    go_wp2_with fail
    refine (clockF frm _ K1.out).mono ?_
    rintro e w1 ⟨rfl, rfl⟩
    go_wp2_with fail
    rw [Exit.noGoto_ret]
    go_ret2
    exact ⟨rfl, Below.refl _ _⟩
  · have K1 := Lib.hid h1
    have K2 := Lib.hid h2
    clear h1 h2
    go_enter Try.func24, Try.ntmps24
    go_wp2_with fail
    go_step3
    go_wp2_with fail
    refine (clockT frm _ K1.out).mono ?_
    rintro e w1 ⟨rfl, rfl⟩
    go_wp2_with fail
    refine (clockF to _ K2.out).mono ?_
    rintro e w1 ⟨rfl, rfl⟩
    go_wp2_with fail
    rw [Exit.noGoto_ret]
    go_ret2
    exact ⟨rfl, Below.refl _ _⟩
  · have K1 := Lib.hid h1
    have K2 := Lib.hid h2
    have hd : decide (to ≤ frm) = true := by simpa using h3
    clear h1 h2 h3
    go_enter Try.func24, Try.ntmps24
    go_wp2_with fail
    go_step3
    go_wp2_with fail
    refine (clockT frm _ K1.out).mono ?_
    rintro e w1 ⟨rfl, rfl⟩
    go_wp2_with fail
    refine (clockT to _ K2.out).mono ?_
    rintro e w1 ⟨rfl, rfl⟩
    go_wp2_with fail
    rw [Exit.noGoto_ret]
    go_ret2
    exact ⟨rfl, Below.refl _ _⟩
  · have K1 := Lib.hid h1
    have K2 := Lib.hid h2
    have hd : decide (to ≤ frm) = false := by simpa using h3
    have hd2 : decide (k < 1) = true := by simpa using h4
    clear h1 h2 h3 h4
    go_enter Try.func24, Try.ntmps24
    go_wp2_with fail
    go_step3
    go_wp2_with fail
    refine (clockT frm _ K1.out).mono ?_
    rintro e w1 ⟨rfl, rfl⟩
    go_wp2_with fail
    refine (clockT to _ K2.out).mono ?_
    rintro e w1 ⟨rfl, rfl⟩
    go_wp2_with fail
    rw [Exit.noGoto_ret]
    go_ret2
    exact ⟨rfl, Below.refl _ _⟩
  · have K1 := Lib.hid h1
    have K2 := Lib.hid h2
    have hd : decide (to ≤ frm) = false := by simpa using h3
    have hd2 : decide (k < 1) = false := by simpa using h4
    have hd3 : decide (n < k) = true := by simpa using h5
    clear h1 h2 h3 h4 h5
    go_enter Try.func24, Try.ntmps24
    go_wp2_with fail
    go_step3
    go_wp2_with fail
    refine (clockT frm _ K1.out).mono ?_
    rintro e w1 ⟨rfl, rfl⟩
    go_wp2_with fail
    refine (clockT to _ K2.out).mono ?_
    rintro e w1 ⟨rfl, rfl⟩
    go_wp2_with fail
    rw [Exit.noGoto_ret]
    go_ret2
    exact ⟨rfl, Below.refl _ _⟩

end Go.Proofs.Ytjknmnmilladlaa
