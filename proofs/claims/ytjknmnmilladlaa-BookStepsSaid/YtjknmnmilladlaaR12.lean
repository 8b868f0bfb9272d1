/-
  Walks of the reference (layer 11): right, lay.
-/
import Derived.Test.YtjknmnmilladlaaP20
namespace Go.Proofs.Ytjknmnmilladlaa
open Go.RowKit

theorem cell_at1 (w : World) (a : Obj) (cs : Array Value) (t : TypeId) (o : Nat) {u : Value} (h : cs[o]? = some u) : ((w.alloc a).alloc (.cells cs t)).cell? ⟨w.heap.size + 1, o, none⟩ = some u := by
  rw [show w.heap.size + 1 = (w.alloc a).heap.size by simp]
  exact cell_new _ cs t o h
theorem cell_at2 (w : World) (a b : Obj) (cs : Array Value) (t : TypeId) (o : Nat) {u : Value} (h : cs[o]? = some u) : (((w.alloc a).alloc b).alloc (.cells cs t)).cell? ⟨w.heap.size + 1 + 1, o, none⟩ = some u := by
  rw [show w.heap.size + 1 + 1 = ((w.alloc a).alloc b).heap.size by simp]
  exact cell_new _ cs t o h
theorem frozen_at2 (w : World) (a b : Obj) (cs : Array Value) (t : TypeId) (o : Nat) : (((w.alloc a).alloc b).alloc (.cells cs t)).frozen? ⟨w.heap.size + 1 + 1, o, none⟩ = false := by
  rw [show w.heap.size + 1 + 1 = ((w.alloc a).alloc b).heap.size by simp]
  exact frozen_new _ cs t o

theorem OwnSlots.no {w : World} {B : Nat} {v : Value} {l : List Slot} (h : OwnSlots w B v l) : ∀ m c, v = .slice none m c → c = m := by
  intro m c e
  rcases h.2 with ⟨h1, _⟩ | ⟨g, cap, cur, hv, _⟩
  · rw [h1] at e
    injection e with _ e2 e3
    omega
  · rw [hv] at e
    injection e with e1
    exact absurd e1 (by simp)

set_option maxHeartbeats 4000000 in
set_option maxRecDepth 100000 in
theorem refRight {w : World} {vu vs : Value} (n : Int) (s : Slot) :
    Calls Try.prog 51 #[.agg #[.int .i64 n, vu, vs], slotV s] w fun e w' => e = .returned (.bool (rightOf n s)) ∧ Below w.heap.size w w' := by
  obtain ⟨id, frm, to, k⟩ := s
  obtain ⟨r, hr⟩ : ∃ r, r = rightOf n ⟨id, frm, to, k⟩ := ⟨_, rfl⟩
  rw [← hr]
  unfold rightOf at hr
  simp only at hr
  unfold slotV
  simp only
  have hp : ∀ x : Int, decide (1 ≤ x) = decide (0 < x) := fun x => by simp only [decide_eq_decide]; omega
  rw [hp, hp] at hr
  have hcases : (decide (0 < id) = false ∧ r = false) ∨ (decide (0 < id) = true ∧ isT frm = false ∧ r = false) ∨ (decide (0 < id) = true ∧ isT frm = true ∧ isT to = false ∧ r = false) ∨ (decide (0 < id) = true ∧ isT frm = true ∧ isT to = true ∧ decide (frm < to) = false ∧ r = false) ∨
      (decide (0 < id) = true ∧ isT frm = true ∧ isT to = true ∧ decide (frm < to) = true ∧ decide (0 < k) = false ∧ r = false) ∨ (decide (0 < id) = true ∧ isT frm = true ∧ isT to = true ∧ decide (frm < to) = true ∧ decide (0 < k) = true ∧ decide (k ≤ n) = r) := by
    cases h1 : decide (0 < id)
    · exact .inl ⟨rfl, by rw [hr, h1]; rfl⟩
    cases h2 : isT frm
    · exact .inr (.inl ⟨rfl, rfl, by rw [hr, h1, h2]; rfl⟩)
    cases h3 : isT to
    · exact .inr (.inr (.inl ⟨rfl, rfl, rfl, by rw [hr, h1, h2, h3]; rfl⟩))
    cases h4 : decide (frm < to)
    · exact .inr (.inr (.inr (.inl ⟨rfl, rfl, rfl, rfl, by rw [hr, h1, h2, h3, h4]; rfl⟩)))
    cases h5 : decide (0 < k)
    · exact .inr (.inr (.inr (.inr (.inl ⟨rfl, rfl, rfl, rfl, rfl, by rw [hr, h1, h2, h3, h4, h5]; rfl⟩))))
    · exact .inr (.inr (.inr (.inr (.inr ⟨rfl, rfl, rfl, rfl, rfl, by rw [hr, h1, h2, h3, h4, h5]; rfl⟩))))
  clear hr hp
  have hBB : Below w.heap.size w ((w.alloc (.cells #[.int .i64 n, vu, vs] 59)).alloc (.cells #[.int .i64 id, .int .i64 frm, .int .i64 to, .int .i64 k] 29)) := ((Below.refl w.heap.size w).alloc (Nat.le_refl _) _).alloc (by simp) _
  have t0 : ((w.alloc (.cells #[.int .i64 n, vu, vs] 59)).alloc (.cells #[.int .i64 id, .int .i64 frm, .int .i64 to, .int .i64 k] 29)).cell? ⟨w.heap.size, 0, none⟩ = some (.int .i64 n) := cell_old _ (cell_new w _ 59 0 rfl)
  have x0 := cell_at1 w (.cells #[.int .i64 n, vu, vs] 59) #[.int .i64 id, .int .i64 frm, .int .i64 to, .int .i64 k] 29 0 rfl
  have x1 := cell_at1 w (.cells #[.int .i64 n, vu, vs] 59) #[.int .i64 id, .int .i64 frm, .int .i64 to, .int .i64 k] 29 1 rfl
  have x2 := cell_at1 w (.cells #[.int .i64 n, vu, vs] 59) #[.int .i64 id, .int .i64 frm, .int .i64 to, .int .i64 k] 29 2 rfl
  have x3 := cell_at1 w (.cells #[.int .i64 n, vu, vs] 59) #[.int .i64 id, .int .i64 frm, .int .i64 to, .int .i64 k] 29 3 rfl
  have HBB := Lib.hid hBB
  clear hBB
  rcases hcases with ⟨h1, rfl⟩ | ⟨h1, h2, rfl⟩ | ⟨h1, h2, h3, rfl⟩ | ⟨h1, h2, h3, h4, rfl⟩ | ⟨h1, h2, h3, h4, h5, rfl⟩ | ⟨h1, h2, h3, h4, h5, h6⟩
  · go_enter Try.func51, Try.ntmps51
    go_wp2_with fail
    go_ret
    exact ⟨rfl, HBB.out⟩
  · have Kh2 := Lib.hid h2
    clear h2
    go_enter Try.func51, Try.ntmps51
    go_wp2_with fail
    refine (refIs _ _ _ Kh2.out).mono ?_
    rintro e w2 ⟨rfl, rfl⟩
    go_wp2_with fail
    go_ret
    exact ⟨rfl, HBB.out⟩
  all_goals
    have Kh2 := Lib.hid h2
    clear h2
    have Kh3 := Lib.hid h3
    clear h3
    go_enter Try.func51, Try.ntmps51
    go_wp2_with fail
    refine (refIs _ _ _ Kh2.out).mono ?_
    rintro e w2 ⟨rfl, rfl⟩
    go_wp2_with fail
    refine (refIs _ _ _ Kh3.out).mono ?_
    rintro e w2 ⟨rfl, rfl⟩
    go_wp2_with fail
    go_ret
    exact ⟨rfl, HBB.out⟩

end Go.Proofs.Ytjknmnmilladlaa
