/-
  Walks: Same (of profiles, of slots, of numbers).
-/
import Derived.Test.YtjknmnmilladlaaW10
import Derived.Laws.StructEq
namespace Go.Proofs.Ytjknmnmilladlaa
open Go.RowKit

theorem eqg38 : Try.prog.eqGuardType Try.prog.depth 38 = false := by kernel_rfl
theorem eqg29 : Try.prog.eqGuardType Try.prog.depth 29 = false := by kernel_rfl
theorem held38 : Try.prog.stoodInHeld 38 = false := by kernel_rfl
theorem held29 : Try.prog.stoodInHeld 29 = false := by kernel_rfl

theorem equal38 (a b c d : Int) (w : World) : (Op.equalIn 10000 38 (.agg #[.int .i64 a, .int .i64 b]) (.agg #[.int .i64 c, .int .i64 d])).run Try.prog w = .ok (decide (a = c ∧ b = d)) w := by
  have u3 := Try.underlying3
  have a3 := Try.isAgg3
  have z3 := Try.sizeOf3
  have hS : Try.prog.underlying 38 = some (.struct (Try.prog.fieldsOf 38)) := by kernel_rfl
  rw [run_equalIn_struct w 9999 38 _ _ hS held38]
  simp only [Program.fieldsOf, Try.underlying38]
  go_simp
  by_cases h1 : a = c <;> by_cases h2 : b = d <;> simp [h1, h2]
theorem equal29 (a b c d a2 b2 c2 d2 : Int) (w : World) : (Op.equalIn 10000 29 (.agg #[.int .i64 a, .int .i64 b, .int .i64 c, .int .i64 d]) (.agg #[.int .i64 a2, .int .i64 b2, .int .i64 c2, .int .i64 d2])).run Try.prog w = .ok (decide (a = a2 ∧ b = b2 ∧ c = c2 ∧ d = d2)) w := by
  have u3 := Try.underlying3
  have a3 := Try.isAgg3
  have z3 := Try.sizeOf3
  have hS : Try.prog.underlying 29 = some (.struct (Try.prog.fieldsOf 29)) := by kernel_rfl
  rw [run_equalIn_struct w 9999 29 _ _ hS held29]
  simp only [Program.fieldsOf, Try.underlying29]
  go_simp
  by_cases h1 : a = a2 <;> by_cases h2 : b = b2 <;> by_cases h3 : c = c2 <;> by_cases h4 : d = d2 <;> simp [h1, h2, h3, h4]

theorem neq38 (x y : Step) (w : World) : (binOp .neq 38 (stepV x) (stepV y)).run Try.prog w = .ok (.bool (!decide (x = y))) w := by
  unfold stepV
  rw [run_neq_struct, equal38]
  obtain ⟨a, b⟩ := x
  obtain ⟨c, d⟩ := y
  simp [Result.andThen]
theorem neq29 (x y : Slot) (w : World) : (binOp .neq 29 (slotV x) (slotV y)).run Try.prog w = .ok (.bool (!decide (x = y))) w := by
  unfold slotV
  rw [run_neq_struct, equal29]
  obtain ⟨a, b, c, d⟩ := x
  obtain ⟨a2, b2, c2, d2⟩ := y
  simp [Result.andThen]
theorem eql29 (x y : Slot) (w : World) : (binOp .eql 29 (slotV x) (slotV y)).run Try.prog w = .ok (.bool (decide (x = y))) w := by
  unfold slotV
  rw [run_eql_struct, equal29]
  obtain ⟨a, b, c, d⟩ := x
  obtain ⟨a2, b2, c2, d2⟩ := y
  simp [Result.andThen]

theorem sameList {α : Type} [Inhabited α] {l m : List α} (hl : l.length = m.length) (h : ∀ j, j < l.length → l.getD j default = m.getD j default) : l = m := by
  refine List.ext_getElem hl fun i h1 h2 => ?_
  have := h i h1
  simpa [List.getD, h1, h2] using this

theorem stepAtV {w : World} {v : Value} {l : List Step} (h : IsSteps w v l) (hn : 0 < l.length) :
    ∃ b off cap, v = .slice (some ⟨b, off, none⟩) l.length cap ∧ l.length ≤ cap ∧ cap ≤ 9223372036854775807 ∧ b < w.heap.size ∧ ∀ i, i < l.length → ∃ x y, l.getD i default = ⟨x, y⟩ ∧ w.cell? ⟨b, off + i * 2, none⟩ = some (.int .i64 x) ∧ w.cell? ⟨b, off + i * 2 + 1, none⟩ = some (.int .i64 y) := by
  obtain ⟨b, off, cap, h0, h1, h2, h3, h4, h5, _⟩ := h.cells hn
  unfold maxLen at h2
  exact ⟨b, off, cap, h0, h1, by omega, h3, fun i hi => ⟨_, _, rfl, h4 i hi, h5 i hi⟩⟩

set_option maxHeartbeats 4000000 in
set_option maxRecDepth 100000 in
theorem sameSteps {w : World} {v1 v2 : Value} {l m : List Step} (h1 : IsSteps w v1 l) (h2 : IsSteps w v2 m) :
    Calls Try.prog 16 #[v1, v2] w fun e w' => e = .returned (.bool (decide (l = m))) ∧ Below w.heap.size w w' := by
  by_cases hl : l.length = m.length
  rotate_left
  · have hd : decide (l = m) = false := by
      rw [decide_eq_false_iff_not]
      rintro rfl
      exact hl rfl
    obtain ⟨a1, c1, rfl, p1, p2⟩ := h1.shape
    obtain ⟨a2, c2, rfl, p3, p4⟩ := h2.shape
    rw [hd]
    have hx : ((l.length : Int) != m.length) = true := by simp; omega
    clear h1 h2 hd hl
    go_enter Try.func16, Try.ntmps16
    go_wp2_with fail
    go_ret
    exact ⟨rfl, Below.refl _ _⟩
  by_cases hp : 0 < l.length
  rotate_left
  · have e1 : l = [] := List.eq_nil_of_length_eq_zero (by omega)
    have e2 : m = [] := List.eq_nil_of_length_eq_zero (by omega)
    subst e1
    subst e2
    obtain ⟨a1, c1, rfl, p1, p2⟩ := h1.shape
    obtain ⟨a2, c2, rfl, p3, p4⟩ := h2.shape
    clear h1 h2 hl hp
    simp only [decide_true, List.length_nil]
    go_enter Try.func16, Try.ntmps16
    go_wp2_with fail
    go_loopw [5] (fun i wr => i = .int .i64 0 ∧ Below w.heap.size w wr) (fun _ _ => 0)
    case atStart => exact ⟨rfl, Below.refl _ _⟩
    case round =>
      obtain ⟨rfl, hb⟩ := hrel
      go_wp2_with fail
      go_ret
      exact ⟨rfl, hb⟩
  · obtain ⟨b1, o1, c1, rfl, p1, p2, p3, C1⟩ := stepAtV h1 hp
    obtain ⟨b2, o2, c2, rfl, q1, q2, q3, C2⟩ := stepAtV h2 (by omega)
    obtain ⟨N, hN⟩ : ∃ N, N = l.length := ⟨_, rfl⟩
    rw [← hl] at q1 C2 ⊢
    rw [← hN] at p1 q1 C1 C2 hp ⊢
    obtain ⟨r, hr⟩ : ∃ r, r = decide (l = m) := ⟨_, rfl⟩
    rw [← hr]
    have HR := Lib.hid hr
    have HC1 := Lib.hid C1
    have HC2 := Lib.hid C2
    have HL := Lib.hid hl
    have HN := Lib.hid hN
    clear h1 h2 C1 C2 hr hl hN
    have hx : ((N : Int) != N) = false := by simp
    go_enter Try.func16, Try.ntmps16
    go_wp2_with fail
    go_loopw [5] (fun i wr => ∃ k : Nat, k ≤ N ∧ i = .int .i64 k ∧ Below w.heap.size w wr ∧ ∀ j, j < k → l.getD j default = m.getD j default) (fun i _ => N - (intOf i).toNat)
    case atStart => exact ⟨0, by omega, rfl, Below.refl _ _, by omega⟩
    case round =>
      obtain ⟨k, hk, rfl, hb, hj⟩ := hrel
      have HJ := Lib.hid hj
      clear hj
      by_cases hkN : k < N
      · obtain ⟨x, y, e1, g1, g2⟩ := HC1.out k hkN
        obtain ⟨z, t, e2, g3, g4⟩ := HC2.out k hkN
        have E1 := Lib.hid e1
        have E2 := Lib.hid e2
        have k1 : wr.cell? ⟨b1, o1 + k * 2, none⟩ = some (.int .i64 x) := (hb.cell (by exact p3)).trans g1
        have k2 : wr.cell? ⟨b1, o1 + k * 2 + 1, none⟩ = some (.int .i64 y) := (hb.cell (by exact p3)).trans g2
        have k3 : wr.cell? ⟨b2, o2 + k * 2, none⟩ = some (.int .i64 z) := (hb.cell (by exact q3)).trans g3
        have k4 : wr.cell? ⟨b2, o2 + k * 2 + 1, none⟩ = some (.int .i64 t) := (hb.cell (by exact q3)).trans g4
        have HB := Lib.hid hb
        have hkk : (k : Int) < N := by omega
        clear e1 e2 g1 g2 g3 g4 hb
        have hne : ∀ w, (binOp .neq 38 (.agg #[.int .i64 x, .int .i64 y]) (.agg #[.int .i64 z, .int .i64 t])).run Try.prog w = .ok (.bool (!decide ((⟨x, y⟩ : Step) = ⟨z, t⟩))) w := fun w => neq38 ⟨x, y⟩ ⟨z, t⟩ w
        have hgu := fun (w : World) (s u : Operand) => run_eqGuard_agg (P := Try.prog) w .neq 38 s u #[.int .i64 x, .int .i64 y] #[.int .i64 z, .int .i64 t] eqg38
        cases hc : decide ((⟨x, y⟩ : Step) = ⟨z, t⟩)
        · rw [hc] at hne
          simp only [Bool.not_false] at hne
          have hrf : r = false := by
            rw [HR.out, decide_eq_false_iff_not]
            intro he
            rw [decide_eq_false_iff_not] at hc
            rw [← E1.out, ← E2.out, he] at hc
            exact hc rfl
          subst hrf
          clear hc
          go_wp2_with fail
          go_quiet (fail)
          go_wp2_with fail
          go_ret
          exact ⟨rfl, below_drewN HB.out _⟩
        · rw [hc] at hne
          simp only [Bool.not_true] at hne
          have hxx : l.getD k default = m.getD k default := by rw [E1.out, E2.out]; simpa using hc
          have HXX := Lib.hid hxx
          clear hc hxx
          go_wp2_with fail
          go_quiet (fail)
          go_wp2_with fail
          go_roundw
          case rel => exact ⟨k + 1, by omega, by go_num, below_drewN HB.out _, fun j hj => by
            by_cases h : j = k
            · subst h; exact HXX.out
            · exact HJ.out j (by omega)⟩
          case measure => simp [intOf]; omega
      · obtain rfl : k = N := by omega
        have hrt : r = true := by
          rw [HR.out, decide_eq_true_iff]
          exact sameList HL.out (by rw [← HN.out]; exact HJ.out)
        subst hrt
        have HB := Lib.hid hb
        clear hb
        have hd : decide ((k : Int) < k) = false := by simp
        go_wp2_with fail
        go_ret
        exact ⟨rfl, HB.out⟩

end Go.Proofs.Ytjknmnmilladlaa
