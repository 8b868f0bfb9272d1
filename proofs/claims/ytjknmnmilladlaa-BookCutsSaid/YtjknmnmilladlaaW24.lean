/-
  Walks: Same, at slots and at numbers. (Printed by gen23.py.)
-/
import Derived.Test.YtjknmnmilladlaaW23
namespace Go.Proofs.Ytjknmnmilladlaa
open Go.RowKit

theorem slotAtV {w : World} {v : Value} {l : List Slot} (h : IsSlots w v l) (hn : 0 < l.length) :
    ∃ b off cap, v = .slice (some ⟨b, off, none⟩) l.length cap ∧ l.length ≤ cap ∧ cap ≤ 9223372036854775807 ∧ b < w.heap.size ∧ ∀ i, i < l.length → ∃ x y z t, l.getD i default = ⟨x, y, z, t⟩ ∧ w.cell? ⟨b, off + i * 4, none⟩ = some (.int .i64 x) ∧ w.cell? ⟨b, off + i * 4 + 1, none⟩ = some (.int .i64 y) ∧ w.cell? ⟨b, off + i * 4 + 2, none⟩ = some (.int .i64 z) ∧ w.cell? ⟨b, off + i * 4 + 3, none⟩ = some (.int .i64 t) := by
  obtain ⟨hl, ao, cap, rfl, h1, h2, h3⟩ := h
  obtain ⟨b, off, rfl, hr⟩ := h3 hn
  unfold maxLen at h2
  have hc : ∀ i j u, i < l.length → j < 4 → (slotCells (slv l i))[j]? = some u → w.cell? ⟨b, off + i * 4 + j, none⟩ = some u := by
    intro i j u hi hj hu
    have := hr (i * 4 + j) u (by rw [flatL_at l i j hi, if_pos hj]; exact hu)
    rw [show off + i * 4 + j = off + (i * 4 + j) by omega]
    exact this
  refine ⟨b, off, cap, rfl, h1, by omega, hr.lt ?_, fun i hi => ⟨_, _, _, _, rfl, hc i 0 _ hi (by omega) rfl, hc i 1 _ hi (by omega) rfl, hc i 2 _ hi (by omega) rfl, hc i 3 _ hi (by omega) rfl⟩⟩
  intro e; rw [e] at hl; simp at hl; omega

set_option maxHeartbeats 4000000 in
set_option maxRecDepth 100000 in
theorem sameSlots {w : World} {v1 v2 : Value} {l m : List Slot} (h1 : IsSlots w v1 l) (h2 : IsSlots w v2 m) :
    Calls Try.prog 25 #[v1, v2] w fun e w' => e = .returned (.bool (decide (l = m))) ∧ Below w.heap.size w w' := by
  by_cases hl : l.length = m.length
  rotate_left
  · have hd : decide (l = m) = false := by
      rw [decide_eq_false_iff_not]
      rintro rfl
      exact hl rfl
    obtain ⟨a1, c1, rfl, p1, p2⟩ := h1.shape
    obtain ⟨a2, c2, rfl, p3, p4⟩ := h2.shape
    rw [hd]
    have hx : ((l.length : Int) != m.length) = true := by simp; omega
    clear h1 h2 hd hl
    go_enter Try.func25, Try.ntmps25
    go_wp2_with fail
    go_ret
    exact ⟨rfl, Below.refl _ _⟩
  by_cases hp : 0 < l.length
  rotate_left
  · have e1 : l = [] := List.eq_nil_of_length_eq_zero (by omega)
    have e2 : m = [] := List.eq_nil_of_length_eq_zero (by omega)
    subst e1
    subst e2
    obtain ⟨a1, c1, rfl, p1, p2⟩ := h1.shape
    obtain ⟨a2, c2, rfl, p3, p4⟩ := h2.shape
    clear h1 h2 hl hp
    simp only [decide_true, List.length_nil]
    go_enter Try.func25, Try.ntmps25
    go_wp2_with fail
    go_loopw [5] (fun i wr => i = .int .i64 0 ∧ Below w.heap.size w wr) (fun _ _ => 0)
    case atStart => exact ⟨rfl, Below.refl _ _⟩
    case round =>
      obtain ⟨rfl, hb⟩ := hrel
      go_wp2_with fail
      go_ret
      exact ⟨rfl, hb⟩
  · obtain ⟨b1, o1, c1, rfl, p1, p2, p3, C1⟩ := slotAtV h1 hp
    obtain ⟨b2, o2, c2, rfl, q1, q2, q3, C2⟩ := slotAtV h2 (by omega)
    obtain ⟨N, hN⟩ : ∃ N, N = l.length := ⟨_, rfl⟩
    rw [← hl] at q1 C2 ⊢
    rw [← hN] at p1 q1 C1 C2 hp ⊢
    obtain ⟨r, hr⟩ : ∃ r, r = decide (l = m) := ⟨_, rfl⟩
    rw [← hr]
    have HR := Lib.hid hr
    have HC1 := Lib.hid C1
    have HC2 := Lib.hid C2
    have HL := Lib.hid hl
    have HN := Lib.hid hN
    clear h1 h2 C1 C2 hr hl hN
    have hx : ((N : Int) != N) = false := by simp
    go_enter Try.func25, Try.ntmps25
    go_wp2_with fail
    go_loopw [5] (fun i wr => ∃ k : Nat, k ≤ N ∧ i = .int .i64 k ∧ Below w.heap.size w wr ∧ ∀ j, j < k → l.getD j default = m.getD j default) (fun i _ => N - (intOf i).toNat)
    case atStart => exact ⟨0, by omega, rfl, Below.refl _ _, by omega⟩
    case round =>
      obtain ⟨k, hk, rfl, hb, hj⟩ := hrel
      have HJ := Lib.hid hj
      clear hj
      by_cases hkN : k < N
      · obtain ⟨x, y, x3, x4, e1, g1, g2, g5, g6⟩ := HC1.out k hkN
        obtain ⟨z, t, z3, z4, e2, g3, g4, g7, g8⟩ := HC2.out k hkN
        have E1 := Lib.hid e1
        have E2 := Lib.hid e2
        have k1 : wr.cell? ⟨b1, o1 + k * 4, none⟩ = some (.int .i64 x) := (hb.cell (by exact p3)).trans g1
        have k2 : wr.cell? ⟨b1, o1 + k * 4 + 1, none⟩ = some (.int .i64 y) := (hb.cell (by exact p3)).trans g2
        have k5 : wr.cell? ⟨b1, o1 + k * 4 + 2, none⟩ = some (.int .i64 x3) := (hb.cell (by exact p3)).trans g5
        have k6 : wr.cell? ⟨b1, o1 + k * 4 + 3, none⟩ = some (.int .i64 x4) := (hb.cell (by exact p3)).trans g6
        have k3 : wr.cell? ⟨b2, o2 + k * 4, none⟩ = some (.int .i64 z) := (hb.cell (by exact q3)).trans g3
        have k4 : wr.cell? ⟨b2, o2 + k * 4 + 1, none⟩ = some (.int .i64 t) := (hb.cell (by exact q3)).trans g4
        have k7 : wr.cell? ⟨b2, o2 + k * 4 + 2, none⟩ = some (.int .i64 z3) := (hb.cell (by exact q3)).trans g7
        have k8 : wr.cell? ⟨b2, o2 + k * 4 + 3, none⟩ = some (.int .i64 z4) := (hb.cell (by exact q3)).trans g8
        have HB := Lib.hid hb
        have hkk : (k : Int) < N := by omega
        clear e1 e2 g1 g2 g3 g4 g5 g6 g7 g8 hb
        have hne : ∀ w, (binOp .neq 29 (.agg #[.int .i64 x, .int .i64 y, .int .i64 x3, .int .i64 x4]) (.agg #[.int .i64 z, .int .i64 t, .int .i64 z3, .int .i64 z4])).run Try.prog w = .ok (.bool (!decide ((⟨x, y, x3, x4⟩ : Slot) = ⟨z, t, z3, z4⟩))) w := fun w => neq29 ⟨x, y, x3, x4⟩ ⟨z, t, z3, z4⟩ w
        have hgu := fun (w : World) (s u : Operand) => run_eqGuard_agg (P := Try.prog) w .neq 29 s u #[.int .i64 x, .int .i64 y, .int .i64 x3, .int .i64 x4] #[.int .i64 z, .int .i64 t, .int .i64 z3, .int .i64 z4] eqg29
        cases hc : decide ((⟨x, y, x3, x4⟩ : Slot) = ⟨z, t, z3, z4⟩)
        · rw [hc] at hne
          simp only [Bool.not_false] at hne
          have hrf : r = false := by
            rw [HR.out, decide_eq_false_iff_not]
            intro he
            rw [decide_eq_false_iff_not] at hc
            rw [← E1.out, ← E2.out, he] at hc
            exact hc rfl
          subst hrf
          clear hc
          go_wp2_with fail
          go_quiet (fail)
          go_wp2_with fail
          go_ret
          exact ⟨rfl, below_drewN HB.out _⟩
        · rw [hc] at hne
          simp only [Bool.not_true] at hne
          have hxx : l.getD k default = m.getD k default := by rw [E1.out, E2.out]; simpa using hc
          have HXX := Lib.hid hxx
          clear hc hxx
          go_wp2_with fail
          go_quiet (fail)
          go_wp2_with fail
          go_roundw
          case rel => exact ⟨k + 1, by omega, by go_num, below_drewN HB.out _, fun j hj => by
            by_cases h : j = k
            · subst h; exact HXX.out
            · exact HJ.out j (by omega)⟩
          case measure => simp [intOf]; omega
      · obtain rfl : k = N := by omega
        have hrt : r = true := by
          rw [HR.out, decide_eq_true_iff]
          exact sameList HL.out (by rw [← HN.out]; exact HJ.out)
        subst hrt
        have HB := Lib.hid hb
        clear hb
        have hd : decide ((k : Int) < k) = false := by simp
        go_wp2_with fail
        go_ret
        exact ⟨rfl, HB.out⟩

theorem intAtV {w : World} {v : Value} {l : List Int} (h : IsInts w v l) (hn : 0 < l.length) :
    ∃ b off cap, v = .slice (some ⟨b, off, none⟩) l.length cap ∧ l.length ≤ cap ∧ cap ≤ 9223372036854775807 ∧ b < w.heap.size ∧ ∀ i, i < l.length → ∃ x, l.getD i default = x ∧ w.cell? ⟨b, off + i, none⟩ = some (.int .i64 x) := by
  obtain ⟨b, off, cap, h0, h1, h2, h3, h4, _⟩ := h.cells hn
  unfold maxLen at h2
  exact ⟨b, off, cap, h0, h1, by omega, h3, fun i hi => ⟨_, rfl, h4 i hi⟩⟩

set_option maxHeartbeats 4000000 in
set_option maxRecDepth 100000 in
theorem sameInts {w : World} {v1 v2 : Value} {l m : List Int} (h1 : IsInts w v1 l) (h2 : IsInts w v2 m) :
    Calls Try.prog 17 #[v1, v2] w fun e w' => e = .returned (.bool (decide (l = m))) ∧ Below w.heap.size w w' := by
  by_cases hl : l.length = m.length
  rotate_left
  · have hd : decide (l = m) = false := by
      rw [decide_eq_false_iff_not]
      rintro rfl
      exact hl rfl
    obtain ⟨a1, c1, rfl, p1, p2⟩ := h1.shape
    obtain ⟨a2, c2, rfl, p3, p4⟩ := h2.shape
    rw [hd]
    have hx : ((l.length : Int) != m.length) = true := by simp; omega
    clear h1 h2 hd hl
    go_enter Try.func17, Try.ntmps17
    go_wp2_with fail
    go_ret
    exact ⟨rfl, Below.refl _ _⟩
  by_cases hp : 0 < l.length
  rotate_left
  · have e1 : l = [] := List.eq_nil_of_length_eq_zero (by omega)
    have e2 : m = [] := List.eq_nil_of_length_eq_zero (by omega)
    subst e1
    subst e2
    obtain ⟨a1, c1, rfl, p1, p2⟩ := h1.shape
    obtain ⟨a2, c2, rfl, p3, p4⟩ := h2.shape
    clear h1 h2 hl hp
    simp only [decide_true, List.length_nil]
    go_enter Try.func17, Try.ntmps17
    go_wp2_with fail
    go_loopw [5] (fun i wr => i = .int .i64 0 ∧ Below w.heap.size w wr) (fun _ _ => 0)
    case atStart => exact ⟨rfl, Below.refl _ _⟩
    case round =>
      obtain ⟨rfl, hb⟩ := hrel
      go_wp2_with fail
      go_ret
      exact ⟨rfl, hb⟩
  · obtain ⟨b1, o1, c1, rfl, p1, p2, p3, C1⟩ := intAtV h1 hp
    obtain ⟨b2, o2, c2, rfl, q1, q2, q3, C2⟩ := intAtV h2 (by omega)
    obtain ⟨N, hN⟩ : ∃ N, N = l.length := ⟨_, rfl⟩
    rw [← hl] at q1 C2 ⊢
    rw [← hN] at p1 q1 C1 C2 hp ⊢
    obtain ⟨r, hr⟩ : ∃ r, r = decide (l = m) := ⟨_, rfl⟩
    rw [← hr]
    have HR := Lib.hid hr
    have HC1 := Lib.hid C1
    have HC2 := Lib.hid C2
    have HL := Lib.hid hl
    have HN := Lib.hid hN
    clear h1 h2 C1 C2 hr hl hN
    have hx : ((N : Int) != N) = false := by simp
    go_enter Try.func17, Try.ntmps17
    go_wp2_with fail
    go_loopw [5] (fun i wr => ∃ k : Nat, k ≤ N ∧ i = .int .i64 k ∧ Below w.heap.size w wr ∧ ∀ j, j < k → l.getD j default = m.getD j default) (fun i _ => N - (intOf i).toNat)
    case atStart => exact ⟨0, by omega, rfl, Below.refl _ _, by omega⟩
    case round =>
      obtain ⟨k, hk, rfl, hb, hj⟩ := hrel
      have HJ := Lib.hid hj
      clear hj
      by_cases hkN : k < N
      · obtain ⟨x, e1, g1⟩ := HC1.out k hkN
        obtain ⟨z, e2, g3⟩ := HC2.out k hkN
        have E1 := Lib.hid e1
        have E2 := Lib.hid e2
        have k1 : wr.cell? ⟨b1, o1 + k, none⟩ = some (.int .i64 x) := (hb.cell (by exact p3)).trans g1
        have k3 : wr.cell? ⟨b2, o2 + k, none⟩ = some (.int .i64 z) := (hb.cell (by exact q3)).trans g3
        have HB := Lib.hid hb
        have hkk : (k : Int) < N := by omega
        clear e1 e2 g1 g3 hb
        cases hc : decide (x = z)
        · have hne : (x != z) = true := by simpa using hc
          have hrf : r = false := by
            rw [HR.out, decide_eq_false_iff_not]
            intro he
            rw [decide_eq_false_iff_not] at hc
            rw [← E1.out, ← E2.out, he] at hc
            exact hc rfl
          subst hrf
          clear hc
          go_wp2_with fail
          go_quiet (fail)
          go_wp2_with fail
          go_ret
          exact ⟨rfl, below_drewN HB.out _⟩
        · have hne : (x != z) = false := by simpa using hc
          have hxx : l.getD k default = m.getD k default := by rw [E1.out, E2.out]; simpa using hc
          have HXX := Lib.hid hxx
          clear hc hxx
          go_wp2_with fail
          go_quiet (fail)
          go_wp2_with fail
          go_roundw
          case rel => exact ⟨k + 1, by omega, by go_num, below_drewN HB.out _, fun j hj => by
            by_cases h : j = k
            · subst h; exact HXX.out
            · exact HJ.out j (by omega)⟩
          case measure => simp [intOf]; omega
      · obtain rfl : k = N := by omega
        have hrt : r = true := by
          rw [HR.out, decide_eq_true_iff]
          exact sameList HL.out (by rw [← HN.out]; exact HJ.out)
        subst hrt
        have HB := Lib.hid hb
        clear hb
        have hd : decide ((k : Int) < k) = false := by simp
        go_wp2_with fail
        go_ret
        exact ⟨rfl, HB.out⟩

end Go.Proofs.Ytjknmnmilladlaa
