/-
  Walk of the reference (layer 11): without.
-/
import Derived.Test.YtjknmnmilladlaaR9
namespace Go.Proofs.Ytjknmnmilladlaa
open Go.RowKit

theorem set3 {w : World} {R : Nat} {a b c : Value} {x y z : Value} (r0 : w.cell? ⟨R, 0, none⟩ = some x) (r1 : w.cell? ⟨R, 1, none⟩ = some y) (r2 : w.cell? ⟨R, 2, none⟩ = some z) :
    (((w.setCell ⟨R, 0, none⟩ a).setCell ⟨R, 1, none⟩ b).setCell ⟨R, 2, none⟩ c).cell? ⟨R, 0, none⟩ = some a ∧ (((w.setCell ⟨R, 0, none⟩ a).setCell ⟨R, 1, none⟩ b).setCell ⟨R, 2, none⟩ c).cell? ⟨R, 1, none⟩ = some b ∧ (((w.setCell ⟨R, 0, none⟩ a).setCell ⟨R, 1, none⟩ b).setCell ⟨R, 2, none⟩ c).cell? ⟨R, 2, none⟩ = some c :=
  ⟨(cell_set_other (.inr (by decide))).trans ((cell_set_other (.inr (by decide))).trans (cell_set_same r0)),
    (cell_set_other (.inr (by decide))).trans (cell_set_same ((cell_set_other (.inr (by decide))).trans r1)),
    cell_set_same ((cell_set_other (.inr (by decide))).trans ((cell_set_other (.inr (by decide))).trans r2))⟩
theorem owns_set3 {w : World} {R B e k : Nat} {v : Value} {n : Nat} {xs : List Value} {a b c : Value} (h : w.ownsRow B e k v n xs) (hR : R < B) :
    (((w.setCell ⟨R, 0, none⟩ a).setCell ⟨R, 1, none⟩ b).setCell ⟨R, 2, none⟩ c).ownsRow B e k v n xs :=
  ownsRow_setCell_below (ownsRow_setCell_below (ownsRow_setCell_below h hR _) hR _) hR _
theorem below_set3 {w0 w : World} {R B : Nat} {a b c : Value} (h : Below B w0 w) (hR : B ≤ R) :
    Below B w0 (((w.setCell ⟨R, 0, none⟩ a).setCell ⟨R, 1, none⟩ b).setCell ⟨R, 2, none⟩ c) :=
  ((h.setCell (p := ⟨R, 0, none⟩) hR _).setCell (p := ⟨R, 1, none⟩) hR _).setCell (p := ⟨R, 2, none⟩) hR _
theorem OwnSlots.wider {w : World} {B C : Nat} {v : Value} {l : List Slot} (h : OwnSlots w C v l) (hB : B ≤ C) : OwnSlots w B v l := by
  refine ⟨h.1, ?_⟩
  rcases h.2 with h' | ⟨g, cap, cur, hv, hb, r⟩
  · exact .inl h'
  · exact .inr ⟨g, cap, cur, hv, by omega, r⟩

theorem without_take {S : List Slot} {q : Nat} {s : Slot} (h : q < S.length) (e : S.getD q default = s) (id : Int) : without (S.take (q + 1)) id = without (S.take q) id ++ (if s.id ≠ id then [s] else []) := by
  unfold without
  rw [List.take_succ_eq_append_getElem h, List.filter_append]
  rw [List.getD_eq_getElem?_getD, List.getElem?_eq_getElem h] at e
  simp only [Option.getD_some] at e
  rw [e]
  by_cases hc : s.id = id
  · simp [hc]
  · simp [hc]

set_option maxHeartbeats 4000000 in
set_option maxRecDepth 100000 in
theorem refWithout {w : World} {vu vs : Value} {S : List Slot} (n : Int) (hvu : ∃ ao m c, vu = .slice ao m c) (h : IsSlots w vs S) (hS : S.length ≤ 9000) (id : Int) {k : Nat} (hk : k < S.length) (hid : ∀ j, j < S.length → ((S.getD j default).id ≠ id ↔ j ≠ k)) :
    Calls Try.prog 53 #[.agg #[.int .i64 n, vu, vs], .int .i64 k] w fun e w' => (∃ v, e = .returned (.agg #[.int .i64 n, vu, v]) ∧ OwnSlots w' w.heap.size v (without S id)) ∧ Below w.heap.size w w' := by
  obtain ⟨N, hN⟩ : ∃ N, N = S.length := ⟨_, rfl⟩
  obtain ⟨au, mu, cu, rfl⟩ := hvu
  obtain ⟨b, off, c1, rfl, p1, p2, hb, hc⟩ := slotAtV h (by omega)
  obtain ⟨i0, hi, hz0, hz1, hz2⟩ := info_parts Try.info29
  rw [← hN] at p1 hc hk hS hid ⊢
  have HID := Lib.hid hid
  have HC := Lib.hid hc
  have HN := Lib.hid hN
  obtain ⟨w1, hw1⟩ : ∃ w1, w1 = (w.alloc (.cells #[.int .i64 n, .slice au mu cu, .slice (some ⟨b, off, none⟩) N c1] 59)).alloc (.cells #[.int .i64 0, .slice none 0 0, .slice none 0 0] 59) := ⟨_, rfl⟩
  have hBB : Below w.heap.size w w1 := by rw [hw1]; exact ((Below.refl w.heap.size w).alloc (Nat.le_refl _) _).alloc (by simp) _
  have hsz : w1.heap.size = w.heap.size + 2 := by rw [hw1]; simp
  have t0 : w1.cell? ⟨w.heap.size, 0, none⟩ = some (.int .i64 n) := by rw [hw1]; exact cell_old _ (cell_new w #[.int .i64 n, .slice au mu cu, .slice (some ⟨b, off, none⟩) N c1] 59 0 rfl)
  have t1 : w1.cell? ⟨w.heap.size, 1, none⟩ = some (.slice au mu cu) := by rw [hw1]; exact cell_old _ (cell_new w #[.int .i64 n, .slice au mu cu, .slice (some ⟨b, off, none⟩) N c1] 59 1 rfl)
  have t2 : w1.cell? ⟨w.heap.size, 2, none⟩ = some (.slice (some ⟨b, off, none⟩) N c1) := by rw [hw1]; exact cell_old _ (cell_new w #[.int .i64 n, .slice au mu cu, .slice (some ⟨b, off, none⟩) N c1] 59 2 rfl)
  have hfr : ∀ o, w1.frozen? ⟨w.heap.size + 1, o, none⟩ = false := by
    intro o
    rw [hw1, show w.heap.size + 1 = (w.alloc (.cells #[.int .i64 n, .slice au mu cu, .slice (some ⟨b, off, none⟩) N c1] 59)).heap.size by simp]
    exact frozen_new _ _ 59 o
  have hcr : ∀ o u, (#[.int .i64 0, .slice none 0 0, .slice none 0 0] : Array Value)[o]? = some u → w1.cell? ⟨w.heap.size + 1, o, none⟩ = some u := by
    intro o u hu
    rw [hw1, show w.heap.size + 1 = (w.alloc (.cells #[.int .i64 n, .slice au mu cu, .slice (some ⟨b, off, none⟩) N c1] 59)).heap.size by simp]
    exact cell_new _ _ 59 o hu
  have HW1 := Lib.hid hw1
  have HBB := Lib.hid hBB
  have HFR := Lib.hid hfr
  have HCR := Lib.hid hcr
  have HT0 := Lib.hid t0
  have HT1 := Lib.hid t1
  have HT2 := Lib.hid t2
  have HSZ := Lib.hid hsz
  clear h hN hc hid hw1 hBB hfr hcr t0 t1 t2 hsz
  go_enter Try.func53, Try.ntmps53
  go_wp2_with fail
  rw [← HW1.out]
  obtain ⟨B, hB⟩ : ∃ B, B = w.heap.size := ⟨_, rfl⟩
  rw [← hB] at HT0 HT1 HT2 HFR HCR HSZ hb ⊢
  have HBE := Lib.hid hB
  clear hB
  go_loopw [5, 6] (fun v5 v6 wr => ∃ q : Nat, q ≤ N ∧ v6 = .int .i64 q ∧ Below (B + 2) w1 wr ∧ OwnSlots wr (B + 2) v5 (without (S.take q) id)) (fun _ v6 _ => N - (intOf v6).toNat)
  case atStart => exact ⟨0, by omega, rfl, Below.refl _ _, by rw [show without (S.take 0) id = [] from rfl]; exact World.ownsRow_nil _ _ _ _⟩
  case round =>
    obtain ⟨q, hq, rfl, hbr, ho⟩ := hrel
    have HB := Lib.hid hbr
    have hsr : B + 2 ≤ wr.heap.size := by have := hbr.size; have := HSZ.out; omega
    have t0 := (hbr.cell (p := ⟨B, 0, none⟩) (by simp)).trans HT0.out
    have t1 := (hbr.cell (p := ⟨B, 1, none⟩) (by simp)).trans HT1.out
    have t2 := (hbr.cell (p := ⟨B, 2, none⟩) (by simp)).trans HT2.out
    by_cases hqN : q < N
    · obtain ⟨x, y, z, u, e1, g0, g1, g2, g3⟩ := HC.out q hqN
      have hbw : b < w.heap.size := by rw [← HBE.out]; exact hb
      have hb2 : b < B + 2 := by omega
      have k0 := (hbr.cell (p := ⟨b, off + q * 4, none⟩) hb2).trans ((HBB.out.cell (p := ⟨b, off + q * 4, none⟩) hbw).trans g0)
      have k1 := (hbr.cell (p := ⟨b, off + q * 4 + 1, none⟩) hb2).trans ((HBB.out.cell (p := ⟨b, off + q * 4 + 1, none⟩) hbw).trans g1)
      have k2 := (hbr.cell (p := ⟨b, off + q * 4 + 2, none⟩) hb2).trans ((HBB.out.cell (p := ⟨b, off + q * 4 + 2, none⟩) hbw).trans g2)
      have k3 := (hbr.cell (p := ⟨b, off + q * 4 + 3, none⟩) hb2).trans ((HBB.out.cell (p := ⟨b, off + q * 4 + 3, none⟩) hbw).trans g3)
      have hqq : (q : Int) < N := by omega
      have hwt := without_take (by rw [← HN.out]; exact hqN) e1 id
      have hiff := HID.out q hqN
      rw [e1] at hiff
      simp only at hiff hwt
      have hlen : (without (S.take q) id).length ≤ 9000 := by
        have h1 := List.length_filter_le (fun x : Slot => decide (x.id ≠ id)) (S.take q)
        rw [List.length_take] at h1
        unfold without
        omega
      generalize without (S.take q) id = lst at *
      have HWT := Lib.hid hwt
      unfold OwnSlots at ho
      have HOW := Lib.hid ho
      clear hbr ho g0 g1 g2 g3 e1 hwt
      by_cases hqk : q = k
      · have hx : ¬ (x ≠ id) := fun h => (hiff.1 h) hqk
        have dq : ((q : Int) == k) = true := by simp [hqk]
        have HX := Lib.hid hx
        clear hx hiff hqk
        go_wp2_with fail
        go_roundw
        case rel => exact ⟨q + 1, by omega, by go_num, HB.out, by rw [HWT.out, if_neg HX.out, List.append_nil]; exact HOW.out⟩
        case measure => simp [intOf]; omega
      · have hx : x ≠ id := hiff.2 hqk
        have dq : ((q : Int) == k) = false := by simp; omega
        have HX := Lib.hid hx
        clear hx hiff
        go_wp2_with (at_builtin; refine wpList_append_own _ rfl (.tmp 17) (.tmp 23) 52 rfl (B + 2) 29 i0 _ 4 32 Try.underlying52 hi hz0 hz1 hz2 rfl (by decide) _ _ _ rfl (by exact (HOW.out.alloc _)) ⟨wr.heap.size, 0, none⟩ 1 1 [.int .i64 x, .int .i64 y, .int .i64 z, .int .i64 u] rfl rfl (news_at _ _ rfl #[.int .i64 x, .int .i64 y, .int .i64 z, .int .i64 u] 29) (by simp [Value.oneCell']) (by unfold maxLen; omega) (by omega) (by simp; omega) ?_)
        intro v' w8 hown8 hgrow hnil
        have HO8 := Lib.hid hown8
        have HG8 := Lib.hid hgrow
        clear hown8 hgrow hnil
        go_wp2_with fail
        go_roundw
        case rel =>
          refine ⟨q + 1, by omega, by go_num, (HB.out.alloc hsr _).grown HG8.out (by simp; omega) (fun g hg => ((World.ownsRow.lt HOW.out) g hg).1), ?_⟩
          rw [HWT.out, if_pos HX.out]
          exact own_slot1 HO8.out
        case measure => simp [intOf]; omega
    · obtain rfl : q = N := by omega
      have hd : decide ((q : Int) < q) = false := by simp
      have hall : S.take q = S := by rw [List.take_of_length_le]; rw [HN.out]; exact Nat.le_refl _
      rw [hall] at ho
      have HO := Lib.hid ho
      have f0 := (hbr.frozen (p := ⟨B + 1, 0, none⟩) (by simp)).trans (HFR.out 0)
      have f1 := (hbr.frozen (p := ⟨B + 1, 1, none⟩) (by simp)).trans (HFR.out 1)
      have f2 := (hbr.frozen (p := ⟨B + 1, 2, none⟩) (by simp)).trans (HFR.out 2)
      have r0 := (hbr.cell (p := ⟨B + 1, 0, none⟩) (by simp)).trans (HCR.out 0 _ rfl)
      have r1 := (hbr.cell (p := ⟨B + 1, 1, none⟩) (by simp)).trans (HCR.out 1 _ rfl)
      have r2 := (hbr.cell (p := ⟨B + 1, 2, none⟩) (by simp)).trans (HCR.out 2 _ rfl)
      obtain ⟨a5, c5, hv5, _, _⟩ := IsSlots.shape ho.is
      clear hall ho hbr
      go_wp2_with fail
      obtain ⟨s0, s1, s2⟩ := set3 (a := .int .i64 n) (b := .slice au mu cu) (c := .slice a5 (without S id).length c5) r0 r1 r2
      refine bodyPost_ret (v := .agg #[.int .i64 n, .slice au mu cu, .slice a5 (without S id).length c5]) (by simp [results, Try.f53]; go_simp) rfl ?_
      refine ⟨⟨_, rfl, ?_⟩, ?_⟩
      · rw [← hv5, ← HBE.out]
        exact OwnSlots.wider (owns_set3 HO.out (by omega)) (by omega)
      · have h1 := HBB.out
        rw [← HBE.out] at h1 ⊢
        exact below_set3 (h1.trans (HB.out.mono (by omega))) (by omega)

end Go.Proofs.Ytjknmnmilladlaa
