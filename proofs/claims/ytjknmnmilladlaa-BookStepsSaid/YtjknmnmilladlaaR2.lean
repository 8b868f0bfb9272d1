/-
  Walks of the reference (layer 9): has, tidy.
-/
import Derived.Test.YtjknmnmilladlaaR1
import Derived.Maps.AppendAt
namespace Go.Proofs.Ytjknmnmilladlaa
open Go.RowKit

theorem pred_wrap {p : Nat} (h : p ≤ 4611686018427387904) : IntKind.i64.wrap ((p : Int) + 1 - 1) = p := by
  have h1 := small_wrap (a := (p : Int)) (by omega) (by omega)
  have h2 : (p : Int) + 1 - 1 = p := by omega
  rw [h2]
  exact h1

set_option maxHeartbeats 4000000 in
set_option maxRecDepth 100000 in
theorem refHas {w : World} {v : Value} {l : List Int} (h : IsInts w v l) (x : Int) (r : Bool) (hr : decide (x ∈ l) = r) :
    Calls Try.prog 95 #[v, .int .i64 x] w fun e w' => e = .returned (.bool r) ∧ w = w' := by
  by_cases hp : 0 < l.length
  rotate_left
  · have e1 : l = [] := List.eq_nil_of_length_eq_zero (by omega)
    subst e1
    obtain ⟨a1, c1, rfl, p1, p2⟩ := h.shape
    simp at hr
    subst hr
    clear h hp
    simp only [List.length_nil]
    go_enter Try.func95, Try.ntmps95
    go_wp2_with fail
    go_loop [5] (fun i => i = .int .i64 0) (fun _ => 0)
    case atStart => exact rfl
    case round =>
      obtain rfl := hrel
      go_wp2_with fail
      go_ret
      exact ⟨rfl, rfl⟩
  · obtain ⟨b1, o1, c1, rfl, p1, p2, p3, C1⟩ := intAtV h hp
    obtain ⟨N, hN⟩ : ∃ N, N = l.length := ⟨_, rfl⟩
    rw [← hN] at p1 C1 hp ⊢
    have HR := Lib.hid hr
    have HC := Lib.hid C1
    have HN := Lib.hid hN
    clear h C1 hr hN
    go_enter Try.func95, Try.ntmps95
    go_wp2_with fail
    go_loop [5] (fun i => ∃ k : Nat, k ≤ N ∧ i = .int .i64 k ∧ ∀ j, j < k → l.getD j default ≠ x) (fun i => N - (intOf i).toNat)
    case atStart => exact ⟨0, by omega, rfl, by omega⟩
    case round =>
      obtain ⟨k, hk, rfl, hj⟩ := hrel
      have HJ := Lib.hid hj
      clear hj
      by_cases hkN : k < N
      · obtain ⟨y, e1, g1⟩ := HC.out k hkN
        have E1 := Lib.hid e1
        have hkk : (k : Int) < N := by omega
        clear e1
        cases hc : (y == x)
        · have hxx : l.getD k default ≠ x := by rw [E1.out]; intro e; simp at hc; exact hc e
          have HXX := Lib.hid hxx
          clear hxx
          go_wp2_with fail
          go_round
          case rel => exact ⟨k + 1, by omega, by go_num, fun j hj => by
            by_cases h : j = k
            · subst h; exact HXX.out
            · exact HJ.out j (by omega)⟩
          case measure => simp [intOf]; omega
        · have hrr : r = true := by
            rw [← HR.out, decide_eq_true_iff]
            have hkl : k < l.length := by rw [← HN.out]; exact hkN
            have := E1.out
            rw [List.getD_eq_getElem?_getD, List.getElem?_eq_getElem hkl] at this
            simp at hc this
            rw [← hc, ← this]
            exact List.getElem_mem hkl
          subst hrr
          go_wp2_with fail
          go_ret
          exact ⟨rfl, rfl⟩
      · obtain rfl : k = N := by omega
        have hrr : r = false := by
          rw [← HR.out, decide_eq_false_iff_not]
          intro hm
          obtain ⟨i, hi, rfl⟩ := List.getElem_of_mem hm
          exact HJ.out i (by rw [HN.out]; exact hi) (by rw [List.getD_eq_getElem?_getD, List.getElem?_eq_getElem hi]; rfl)
        subst hrr
        have hd : decide ((k : Int) < k) = false := by simp
        go_wp2_with fail
        go_ret
        exact ⟨rfl, rfl⟩

/-- Nothing that lay in w has turned, but the one row. -/
def Grow (w w' : World) (row : Option Nat) : Prop := ∀ g, g < w.heap.size → some g ≠ row → w'.heap[g]? = w.heap[g]?
/-- A row's new place: the old one, or a new block. -/
def Lies (w : World) (v u : Value) : Prop := u.ownBlock = v.ownBlock ∨ ∃ g, u.ownBlock = some g ∧ w.heap.size ≤ g

theorem Grow.of_below {w w' : World} {row : Option Nat} (h : Below w.heap.size w w') : Grow w w' row := fun g hg _ => h.block g hg
theorem Grow.then {w w1 w' : World} {row : Option Nat} (h : Below w.heap.size w w1) (k : w1.grownBy w' row) : Grow w w' row := fun g hg hn => (k.block g (Nat.lt_of_lt_of_le hg h.size) hn).trans (h.block g hg)

theorem Try.info38s : (Try.prog.info? 38).map (fun i => (i.zero, i.size, i.bytes)) = some (some (.agg #[.int .i64 0, .int .i64 0]), 2, 16) := by kernel_rfl

set_option maxHeartbeats 4000000 in
set_option maxRecDepth 100000 in
/-- tidy: onto a row of the caller's own. -/
theorem refTidy1 {w : World} {B : Nat} {v : Value} {l : List Step} (h : OwnSteps w B v l) (hB : B ≤ w.heap.size) (hl : l.length ≤ 40000) (s : Step) :
    Calls Try.prog 96 #[v, stepV s] w fun e w' => (∃ u, e = .returned u ∧ OwnSteps w' B u (tidyStep l s) ∧ Lies w v u) ∧ Below B w w' ∧ Grow w w' v.ownBlock := by
  obtain ⟨x, y⟩ := s
  unfold stepV
  simp only
  have HO := Lib.hid h
  have HB := Lib.hid hB
  obtain ⟨j0, hj38, hy0, hy1, hy2⟩ := info_parts Try.info38s
  obtain ⟨ao, cap, rfl, p1, p2⟩ := h.is.shape
  by_cases hp : 0 < l.length
  · obtain ⟨b, o, c, e0, q1, q2, q3, C1⟩ := stepAtV h.is hp
    cases e0
    obtain ⟨x1, y1, e1, g1, g2⟩ := C1 (l.length - 1) (by omega)
    have hlast : lastFree l = y1 := by
      unfold lastFree frv
      rw [e1]
    obtain ⟨N, hN⟩ : ∃ N, l.length = N + 1 := ⟨l.length - 1, by omega⟩
    rw [hN] at g1 g2 p1 hl
    simp only [Nat.add_sub_cancel] at g1 g2
    have hwp : IntKind.i64.wrap ((N : Int) + 1 - 1) = N := pred_wrap (by omega)
    have hw2 : IntKind.i64.wrap (((N + 1 : Nat) : Int) - 1) = N := by
      have : ((N + 1 : Nat) : Int) - 1 = (N : Int) + 1 - 1 := by omega
      rw [this]
      exact hwp
    have d1 : decide ((0 : Int) < ((N + 1 : Nat) : Int)) = true := by rw [decide_eq_true_iff]; omega
    have d2 : decide ((0 : Int) < (N : Int) + 1) = true := by rw [decide_eq_true_iff]; omega
    have hb1 : b < (w.alloc (.cells #[.int .i64 x, .int .i64 y] 38)).heap.size := by simp; omega
    have k1 := After.cell hb1 (cell_old (.cells #[.int .i64 x, .int .i64 y] 38) g1)
    have k2 := After.cell hb1 (cell_old (.cells #[.int .i64 x, .int .i64 y] 38) g2)
    have k3 := After.cell (show w.heap.size < (w.alloc (.cells #[.int .i64 x, .int .i64 y] 38)).heap.size by simp) (cell_new w #[.int .i64 x, .int .i64 y] 38 1 rfl)
    have hs1 : (w.alloc (.cells #[.int .i64 x, .int .i64 y] 38)).heap.size = w.heap.size + 1 := by simp
    have HS1 := Lib.hid hs1
    have HLN := Lib.hid hN
    have HLA := Lib.hid hlast
    have hOW := h
    unfold OwnSteps at hOW
    rw [hN] at hOW
    have HOW := Lib.hid hOW
    clear C1 e1 g1 g2 hp hlast h hB hOW hs1
    rw [hN]
    clear hN
    cases hc : (y1 == y)
    · have hts : tidyStep l ⟨x, y⟩ = l ++ [⟨x, y⟩] := by
        unfold tidyStep
        rw [if_neg]
        rintro ⟨_, h2⟩
        rw [HLA.out] at h2
        simp at hc
        exact hc h2
      rw [hts]
      have HTS := Lib.hid hts
      clear hts
      go_enter Try.func96, Try.ntmps96
      go_wp2_with fail
      refine wp_region_quiet_after (by kernel_rfl) (by kernel_rfl) ?_
      repeat (go_big_quiet_step (fail))
      refine wpQuiet_nil ?_
      intro wq hC
      have hwq := after_out hC
      clear hC k1 k2 k3
      have m0 := (hwq.cell (p := ⟨w.heap.size, 0, none⟩) (by simp)).trans (cell_new w #[.int .i64 x, .int .i64 y] 38 0 rfl)
      have m1 := (hwq.cell (p := ⟨w.heap.size, 1, none⟩) (by simp)).trans (cell_new w #[.int .i64 x, .int .i64 y] 38 1 rfl)
      have HQ := Lib.hid hwq
      have HOQ := Lib.hid (owns_below (HOW.out.alloc (.cells #[.int .i64 x, .int .i64 y] 38)) hwq)
      have hBq : B ≤ wq.heap.size := by
        have h1 := HB.out
        have h2 := hwq.size
        have h3 := HS1.out
        omega
      clear hwq
      go_wp2_with (at_builtin; refine wpList_append_own_at _ rfl (.tmp 21) (.tmp 23) 33 rfl B 38 j0 _ 2 16 Try.underlying33 hj38 hy0 hy1 hy2 rfl (by decide) _ _ _ rfl (by exact (HOQ.out.alloc _)) ⟨wq.heap.size, 0, none⟩ 1 1 [.int .i64 x, .int .i64 y] rfl rfl (news_at _ _ rfl #[.int .i64 x, .int .i64 y] 38) (by simp [Value.oneCell']) (by unfold maxLen; omega) (by omega) (by simp; omega) ?_)
      intro v' w8 hown8 hgrow hnil hat
      have HO8 := Lib.hid hown8
      have HG8 := Lib.hid hgrow
      have HAT := Lib.hid hat
      clear hown8 hgrow hnil hat
      go_wp2_with fail
      go_ret
      have hWq : Below w.heap.size w wq := ((Below.refl _ w).alloc (Nat.le_refl _) (.cells #[.int .i64 x, .int .i64 y] 38)).trans (HQ.out.mono (by have h3 := HS1.out; omega))
      have HWS := Lib.hid hWq.size
      have hBB : Below B w wq := ((Below.refl B w).alloc HB.out (.cells #[.int .i64 x, .int .i64 y] 38)).trans (HQ.out.mono (by have h1 := HB.out; have h3 := HS1.out; omega))
      refine ⟨⟨_, rfl, ?_, (by have h := HAT.out; have h2 := HWS.out; rcases h with h | h; exact Or.inl h; exact Or.inr ⟨_, h, by omega⟩)⟩, (hBB.alloc hBq (.cells #[.int .i64 x, .int .i64 y] 38)).grown HG8.out (by simp; omega) (fun g hg => ((World.ownsRow.lt HOQ.out) g hg).1), Grow.then (hWq.alloc HWS.out (.cells #[.int .i64 x, .int .i64 y] 38)) HG8.out⟩
      have := HO8.out
      rw [← HLN.out] at this
      exact own_step1 this
    · have hts : tidyStep l ⟨x, y⟩ = l := by
        unfold tidyStep
        rw [if_pos]
        refine ⟨by rw [HLN.out]; omega, ?_⟩
        rw [HLA.out]
        simpa using hc
      rw [hts]
      clear hts
      go_enter Try.func96, Try.ntmps96
      go_wp2_with fail
      refine wp_region_quiet_after (by kernel_rfl) (by kernel_rfl) ?_
      repeat (go_big_quiet_step (fail))
      refine wpQuiet_nil ?_
      intro wq hC
      have hwq := after_out hC
      clear hC k1 k2 k3
      have HQ := Lib.hid hwq
      clear hwq
      go_wp2_with fail
      go_ret
      have hWq : Below w.heap.size w wq := ((Below.refl _ w).alloc (Nat.le_refl _) (.cells #[.int .i64 x, .int .i64 y] 38)).trans (HQ.out.mono (by have h3 := HS1.out; omega))
      have HWS := Lib.hid hWq.size
      have hBB : Below B w wq := ((Below.refl B w).alloc HB.out (.cells #[.int .i64 x, .int .i64 y] 38)).trans (HQ.out.mono (by have h1 := HB.out; have h3 := HS1.out; omega))
      refine ⟨⟨_, rfl, ?_, Or.inl rfl⟩, hBB, Grow.of_below hWq⟩
      have := owns_below (HOW.out.alloc (.cells #[.int .i64 x, .int .i64 y] 38)) HQ.out
      unfold OwnSteps
      rw [HLN.out]
      exact this
  · have e1 : l = [] := List.eq_nil_of_length_eq_zero (by omega)
    subst e1
    have hts : tidyStep [] ⟨x, y⟩ = [⟨x, y⟩] := by simp [tidyStep]
    rw [hts]
    have d1 : decide ((0 : Int) < 0) = false := by simp
    have hOW := h
    unfold OwnSteps at hOW
    simp only [List.length_nil] at hOW ⊢
    have HOW := Lib.hid hOW
    have hs1 : (w.alloc (.cells #[.int .i64 x, .int .i64 y] 38)).heap.size = w.heap.size + 1 := by simp
    have HS1 := Lib.hid hs1
    clear h hB hp hts hOW hs1
    go_enter Try.func96, Try.ntmps96
    go_wp2_with fail
    refine wp_region_quiet_after (by kernel_rfl) (by kernel_rfl) ?_
    repeat (go_big_quiet_step (fail))
    refine wpQuiet_nil ?_
    intro wq hC
    have hwq := after_out hC
    clear hC
    have m0 := (hwq.cell (p := ⟨w.heap.size, 0, none⟩) (by simp)).trans (cell_new w #[.int .i64 x, .int .i64 y] 38 0 rfl)
    have m1 := (hwq.cell (p := ⟨w.heap.size, 1, none⟩) (by simp)).trans (cell_new w #[.int .i64 x, .int .i64 y] 38 1 rfl)
    have HQ := Lib.hid hwq
    have HOQ := Lib.hid (owns_below (HOW.out.alloc (.cells #[.int .i64 x, .int .i64 y] 38)) hwq)
    have hBq : B ≤ wq.heap.size := by
      have h1 := HB.out
      have h2 := hwq.size
      have h3 := HS1.out
      omega
    clear hwq
    go_wp2_with (at_builtin; refine wpList_append_own_at _ rfl (.tmp 21) (.tmp 23) 33 rfl B 38 j0 _ 2 16 Try.underlying33 hj38 hy0 hy1 hy2 rfl (by decide) _ _ _ rfl (by exact (HOQ.out.alloc _)) ⟨wq.heap.size, 0, none⟩ 1 1 [.int .i64 x, .int .i64 y] rfl rfl (news_at _ _ rfl #[.int .i64 x, .int .i64 y] 38) (by simp [Value.oneCell']) (by unfold maxLen; omega) (by omega) (by simp; omega) ?_)
    intro v' w8 hown8 hgrow hnil hat
    have HO8 := Lib.hid hown8
    have HG8 := Lib.hid hgrow
    have HAT := Lib.hid hat
    clear hown8 hgrow hnil hat
    go_wp2_with fail
    go_ret
    have hWq : Below w.heap.size w wq := ((Below.refl _ w).alloc (Nat.le_refl _) (.cells #[.int .i64 x, .int .i64 y] 38)).trans (HQ.out.mono (by have h3 := HS1.out; omega))
    have HWS := Lib.hid hWq.size
    have hBB : Below B w wq := ((Below.refl B w).alloc HB.out (.cells #[.int .i64 x, .int .i64 y] 38)).trans (HQ.out.mono (by have h1 := HB.out; have h3 := HS1.out; omega))
    refine ⟨⟨_, rfl, ?_, (by have h := HAT.out; have h2 := HWS.out; rcases h with h | h; exact Or.inl h; exact Or.inr ⟨_, h, by omega⟩)⟩, (hBB.alloc hBq (.cells #[.int .i64 x, .int .i64 y] 38)).grown HG8.out (by simp; omega) (fun g hg => ((World.ownsRow.lt HOQ.out) g hg).1), Grow.then (hWq.alloc HWS.out (.cells #[.int .i64 x, .int .i64 y] 38)) HG8.out⟩
    exact own_step1 (l := []) HO8.out

end Go.Proofs.Ytjknmnmilladlaa
