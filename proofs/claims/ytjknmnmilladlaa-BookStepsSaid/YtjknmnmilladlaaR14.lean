/-
  Walk of the reference (layer 11): out, refused.
-/
import Derived.Test.YtjknmnmilladlaaR13
import Derived.Test.YtjknmnmilladlaaP22
namespace Go.Proofs.Ytjknmnmilladlaa
open Go.RowKit

/-- A book boxed, a slot boxed, a book for the result. -/
theorem pre3 {w W : World} {n : Int} {vu vs : Value} {id frm to k : Int} (hW : W = (((w.alloc (.cells #[.int .i64 n, vu, vs] 59)).alloc (.cells #[.int .i64 id, .int .i64 frm, .int .i64 to, .int .i64 k] 29)).alloc (.cells #[.int .i64 0, .slice none 0 0, .slice none 0 0] 59))) :
    Below w.heap.size w W ∧ W.heap.size = w.heap.size + 3 ∧ (W.cell? ⟨w.heap.size, 0, none⟩ = some (.int .i64 n) ∧ W.cell? ⟨w.heap.size, 1, none⟩ = some vu ∧ W.cell? ⟨w.heap.size, 2, none⟩ = some vs) ∧
      (W.cell? ⟨w.heap.size + 1, 0, none⟩ = some (.int .i64 id) ∧ W.cell? ⟨w.heap.size + 1, 1, none⟩ = some (.int .i64 frm) ∧ W.cell? ⟨w.heap.size + 1, 2, none⟩ = some (.int .i64 to) ∧ W.cell? ⟨w.heap.size + 1, 3, none⟩ = some (.int .i64 k)) ∧
      (W.cell? ⟨w.heap.size + 1 + 1, 0, none⟩ = some (.int .i64 0) ∧ W.cell? ⟨w.heap.size + 1 + 1, 1, none⟩ = some (.slice none 0 0) ∧ W.cell? ⟨w.heap.size + 1 + 1, 2, none⟩ = some (.slice none 0 0)) ∧ ∀ o, W.frozen? ⟨w.heap.size + 1 + 1, o, none⟩ = false := by
  subst hW
  refine ⟨(((Below.refl w.heap.size w).alloc (Nat.le_refl _) _).alloc (by simp) _).alloc (by simp; omega) _, by simp, ⟨?_, ?_, ?_⟩, ⟨?_, ?_, ?_, ?_⟩, ⟨?_, ?_, ?_⟩, ?_⟩
  · exact cell_old _ (cell_old _ (cell_new w _ 59 0 rfl))
  · exact cell_old _ (cell_old _ (cell_new w _ 59 1 rfl))
  · exact cell_old _ (cell_old _ (cell_new w _ 59 2 rfl))
  · exact cell_old _ (cell_at1 w _ _ 29 0 rfl)
  · exact cell_old _ (cell_at1 w _ _ 29 1 rfl)
  · exact cell_old _ (cell_at1 w _ _ 29 2 rfl)
  · exact cell_old _ (cell_at1 w _ _ 29 3 rfl)
  · exact cell_at2 w _ _ _ 59 0 rfl
  · exact cell_at2 w _ _ _ 59 1 rfl
  · exact cell_at2 w _ _ _ 59 2 rfl
  · exact fun o => frozen_at2 w _ _ _ 59 o

set_option maxHeartbeats 8000000 in
set_option maxRecDepth 100000 in
theorem refOutBad {w : World} {vu vs : Value} (n : Int) (hvu : ∃ a m c, vu = .slice a m c) (hvs : ∃ a m c, vs = .slice a m c) (s : Slot) (ha : outArg n s.frm s.to s.nodes = false) :
    Calls Try.prog 50 #[.agg #[.int .i64 n, vu, vs], slotV s] w fun e w' => e = .returned (.tuple #[.agg #[.int .i64 n, vu, vs], .slice none 0 0, .int .i64 2]) ∧ Below w.heap.size w w' := by
  obtain ⟨id, frm, to, k⟩ := s
  obtain ⟨au, mu, cu, rfl⟩ := hvu
  obtain ⟨az, mz, cz, rfl⟩ := hvs
  unfold slotV
  simp only at ha ⊢
  have hcases : isT frm = false ∨ (isT frm = true ∧ isT to = false) ∨ (isT frm = true ∧ isT to = true ∧ decide (to ≤ frm) = true) ∨ (isT frm = true ∧ isT to = true ∧ decide (to ≤ frm) = false ∧ decide (k < 1) = true) ∨ (isT frm = true ∧ isT to = true ∧ decide (to ≤ frm) = false ∧ decide (k < 1) = false ∧ decide (n < k) = true) := by
    unfold outArg at ha
    cases h1 : isT frm
    · exact .inl rfl
    cases h2 : isT to
    · exact .inr (.inl ⟨rfl, rfl⟩)
    cases h3 : decide (to ≤ frm)
    rotate_left
    · exact .inr (.inr (.inl ⟨rfl, rfl, rfl⟩))
    cases h4 : decide (k < 1)
    rotate_left
    · exact .inr (.inr (.inr (.inl ⟨rfl, rfl, rfl, rfl⟩)))
    cases h5 : decide (n < k)
    rotate_left
    · exact .inr (.inr (.inr (.inr ⟨rfl, rfl, rfl, rfl, rfl⟩)))
    · exfalso
      rw [h1, h2] at ha
      simp only [Bool.true_and, Bool.and_eq_false_iff, decide_eq_false_iff_not] at ha h3 h4 h5
      omega
  clear ha
  obtain ⟨w1, hw1⟩ : ∃ w1, w1 = (((w.alloc (.cells #[.int .i64 n, .slice au mu cu, .slice az mz cz] 59)).alloc (.cells #[.int .i64 id, .int .i64 frm, .int .i64 to, .int .i64 k] 29)).alloc (.cells #[.int .i64 0, .slice none 0 0, .slice none 0 0] 59)) := ⟨_, rfl⟩
  obtain ⟨hBB, hsz, ⟨t0, t1, t2⟩, ⟨x0, x1, x2, x3⟩, ⟨r0, r1, r2⟩, fz⟩ := pre3 hw1
  have f0 := fz 0
  have f1 := fz 1
  have f2 := fz 2
  have HW1 := Lib.hid hw1
  have HBB := Lib.hid hBB
  clear hw1 hBB hsz fz
  rcases hcases with h1 | ⟨h1, h2⟩ | ⟨h1, h2, h3⟩ | ⟨h1, h2, h3, h4⟩ | ⟨h1, h2, h3, h4, h5⟩
  · have K1 := Lib.hid h1
    clear h1
    rw [HW1.out] at x1
    go_enter Try.func50, Try.ntmps50
    go_wp2_with fail
    rw [← HW1.out]
    refine (refIs _ _ _ K1.out).mono ?_
    rintro e w2 ⟨rfl, rfl⟩
    go_wp2_with fail
    obtain ⟨s0, s1, s2⟩ := set3 (w := w1) (a := .int .i64 n) (b := .slice au mu cu) (c := .slice az mz cz) r0 r1 r2
    refine bodyPost_ret (v := .tuple #[.agg #[.int .i64 n, .slice au mu cu, .slice az mz cz], .slice none 0 0, .int .i64 2]) (by simp [results, Try.f50]; go_simp) rfl ?_
    exact ⟨rfl, below_set3 HBB.out (by omega)⟩
  all_goals
    have K1 := Lib.hid h1
    clear h1
    have K2 := Lib.hid h2
    clear h2
    rw [HW1.out] at x1
    go_enter Try.func50, Try.ntmps50
    go_wp2_with fail
    rw [← HW1.out] at x1 ⊢
    refine (refIs _ _ _ K1.out).mono ?_
    rintro e w2 ⟨rfl, rfl⟩
    go_wp2_with fail
    refine (refIs _ _ _ K2.out).mono ?_
    rintro e w2 ⟨rfl, rfl⟩
    go_wp2_with fail
    obtain ⟨s0, s1, s2⟩ := set3 (w := w1) (a := .int .i64 n) (b := .slice au mu cu) (c := .slice az mz cz) r0 r1 r2
    refine bodyPost_ret (v := .tuple #[.agg #[.int .i64 n, .slice au mu cu, .slice az mz cz], .slice none 0 0, .int .i64 2]) (by simp [results, Try.f50]; go_simp) rfl ?_
    exact ⟨rfl, below_set3 HBB.out (by omega)⟩

end Go.Proofs.Ytjknmnmilladlaa
