/-
  Walk of the reference (layer 11): with.
-/
import Derived.Test.YtjknmnmilladlaaR10
import Derived.Laws.AppendOwnNone
namespace Go.Proofs.Ytjknmnmilladlaa
open Go.RowKit

theorem own_ins {w : World} {B m : Nat} {v : Value} {a b : List Slot} {s : Slot} (h : w.ownsRow B 29 4 v m (flatL a ++ slotCells s ++ flatL b)) : OwnSlots w B v (a ++ [s] ++ b) := by
  have hm : m = (a ++ [s] ++ b).length := by
    have := h.1
    simp [length_flatL, slotCells] at this
    simp
    omega
  subst hm
  unfold OwnSlots
  rw [flatL_append, flatL_append]
  exact h
theorem drop_news {w : World} {b off n c : Nat} {S : List Slot} (h : IsSlots w (.slice (some ⟨b, off, none⟩) n c) S) {q : Nat} (hq : q < S.length) : ∀ j u, (flatL (S.drop q))[j]? = some u → w.cell? ((⟨b, off + q * 4, none⟩ : Addr).add j) = some u := by
  intro j u hj
  obtain ⟨_, ao, cap, e, _, _, h3⟩ := h
  obtain ⟨b', off', e2, hc⟩ := h3 (by omega)
  injection e with e3
  rw [e2] at e3
  injection e3 with e4
  injection e4 with e5 e6
  subst e5
  subst e6
  have := hc (q * 4 + j) u (by
    conv => lhs; rw [← List.take_append_drop q S, flatL_append]
    have hl : (flatL (S.take q)).length = q * 4 := by rw [length_flatL, List.length_take]; congr 1; omega
    rw [List.getElem?_append_right (by omega), hl, Nat.add_sub_cancel_left]
    exact hj)
  rw [Addr.add_lit, show off + q * 4 + j = off + (q * 4 + j) by omega]
  exact this
theorem news_below {w w' : World} {b o : Nat} {news : List Value} (hb : b < w.heap.size) (hB : Below w.heap.size w w') (h : ∀ j u, news[j]? = some u → w.cell? ((⟨b, o, none⟩ : Addr).add j) = some u) : ∀ j u, news[j]? = some u → w'.cell? ((⟨b, o, none⟩ : Addr).add j) = some u := by
  intro j u hj
  have := h j u hj
  rw [Addr.add_lit] at this ⊢
  exact (hB.cell (p := ⟨b, o + j, none⟩) hb).trans this

set_option maxHeartbeats 8000000 in
set_option maxRecDepth 100000 in
theorem refWith {w : World} {vu vs : Value} {S : List Slot} (n : Int) (hvu : ∃ ao m c, vu = .slice ao m c) (h : IsSlots w vs S) (hno : ∀ m c, vs = .slice none m c → c = m) (hS : S.length ≤ 9000) (s : Slot) :
    Calls Try.prog 55 #[.agg #[.int .i64 n, vu, vs], slotV s] w fun e w' => (∃ (v : Value) (k : Nat), e = .returned (.agg #[.int .i64 n, vu, v]) ∧ k ≤ S.length ∧ (∀ j, j < k → (S.getD j default).id < s.id) ∧ (k < S.length → s.id ≤ (S.getD k default).id) ∧ OwnSlots w' w.heap.size v (S.take k ++ [s] ++ S.drop k)) ∧ Below w.heap.size w w' := by
  obtain ⟨N, hN⟩ : ∃ N, N = S.length := ⟨_, rfl⟩
  obtain ⟨au, mu, cu, rfl⟩ := hvu
  obtain ⟨a1, c1, hvs, p1, p2⟩ := h.shape
  obtain ⟨i0, hi, hz0, hz1, hz2⟩ := info_parts Try.info29
  have hcl : 0 < N → ∃ b off, a1 = some ⟨b, off, none⟩ ∧ b < w.heap.size ∧ ∀ i, i < N → ∃ x y z u, S.getD i default = ⟨x, y, z, u⟩ ∧ w.cell? ⟨b, off + i * 4, none⟩ = some (.int .i64 x) ∧ w.cell? ⟨b, off + i * 4 + 1, none⟩ = some (.int .i64 y) ∧ w.cell? ⟨b, off + i * 4 + 2, none⟩ = some (.int .i64 z) ∧ w.cell? ⟨b, off + i * 4 + 3, none⟩ = some (.int .i64 u) := by
    intro hp
    obtain ⟨b, off, cap, e, _, _, hb, hc⟩ := slotAtV h (by rw [← hN]; exact hp)
    rw [hvs] at e
    injection e with e1 e2 e3
    exact ⟨b, off, e1, hb, fun i hi => hc i (by rw [← hN]; exact hi)⟩
  have hno2 : a1 = none → c1 = S.length := fun e => hno _ _ (by rw [hvs, e])
  rw [← hN] at hno2
  have HNO := Lib.hid hno2
  have HSL := Lib.hid h
  have HCL := Lib.hid hcl
  have HN := Lib.hid hN
  have HVS := Lib.hid hvs
  rw [← hN] at hvs p1 hS
  rw [← hN]
  subst hvs
  obtain ⟨id, frm, to, nd⟩ := s
  unfold slotV
  simp only
  obtain ⟨w1, hw1⟩ : ∃ w1, w1 = ((w.alloc (.cells #[.int .i64 n, .slice au mu cu, .slice a1 N c1] 59)).alloc (.cells #[.int .i64 id, .int .i64 frm, .int .i64 to, .int .i64 nd] 29)).alloc (.cells #[.int .i64 0, .slice none 0 0, .slice none 0 0] 59) := ⟨_, rfl⟩
  have hBB : Below w.heap.size w w1 := by rw [hw1]; exact (((Below.refl w.heap.size w).alloc (Nat.le_refl _) _).alloc (by simp) _).alloc (by simp; omega) _
  have hsz : w1.heap.size = w.heap.size + 3 := by rw [hw1]; simp
  have ht : ∀ o u, (#[.int .i64 n, .slice au mu cu, .slice a1 N c1] : Array Value)[o]? = some u → w1.cell? ⟨w.heap.size, o, none⟩ = some u := by
    intro o u hu
    rw [hw1]
    exact cell_old _ (cell_old _ (cell_new w _ 59 o hu))
  have hx : ∀ o u, (#[.int .i64 id, .int .i64 frm, .int .i64 to, .int .i64 nd] : Array Value)[o]? = some u → w1.cell? ⟨w.heap.size + 1, o, none⟩ = some u := by
    intro o u hu
    rw [hw1, show w.heap.size + 1 = (w.alloc (.cells #[.int .i64 n, .slice au mu cu, .slice a1 N c1] 59)).heap.size by simp]
    exact cell_old _ (cell_new _ _ 29 o hu)
  have hcr : ∀ o u, (#[.int .i64 0, .slice none 0 0, .slice none 0 0] : Array Value)[o]? = some u → w1.cell? ⟨w.heap.size + 2, o, none⟩ = some u := by
    intro o u hu
    rw [hw1, show w.heap.size + 2 = ((w.alloc (.cells #[.int .i64 n, .slice au mu cu, .slice a1 N c1] 59)).alloc (.cells #[.int .i64 id, .int .i64 frm, .int .i64 to, .int .i64 nd] 29)).heap.size by simp]
    exact cell_new _ _ 59 o hu
  have hfr : ∀ o, w1.frozen? ⟨w.heap.size + 2, o, none⟩ = false := by
    intro o
    rw [hw1, show w.heap.size + 2 = ((w.alloc (.cells #[.int .i64 n, .slice au mu cu, .slice a1 N c1] 59)).alloc (.cells #[.int .i64 id, .int .i64 frm, .int .i64 to, .int .i64 nd] 29)).heap.size by simp]
    exact frozen_new _ _ 59 o
  have HW1 := Lib.hid hw1
  have HBB := Lib.hid hBB
  have HFR := Lib.hid hfr
  have HCR := Lib.hid hcr
  have HT := Lib.hid ht
  have HX := Lib.hid hx
  have HSZ := Lib.hid hsz
  clear h hN hcl hno hno2 hw1 hBB hfr hcr ht hx hsz
  go_enter Try.func55, Try.ntmps55
  go_wp2_with fail
  rw [← HW1.out]
  obtain ⟨B, hB⟩ : ∃ B, B = w.heap.size := ⟨_, rfl⟩
  rw [← hB] at HT HX HFR HCR HSZ HCL ⊢
  have HBE := Lib.hid hB
  clear hB
  go_loopw [5, 6] (fun v5 v6 wr => ∃ q : Nat, q ≤ N ∧ v6 = .int .i64 q ∧ Below (B + 3) w1 wr ∧ OwnSlots wr (B + 3) v5 (S.take q) ∧ ∀ j, j < q → (S.getD j default).id < id) (fun _ v6 _ => N - (intOf v6).toNat)
  case atStart => exact ⟨0, by omega, rfl, Below.refl _ _, World.ownsRow_nil _ _ _ _, by omega⟩
  case round =>
    obtain ⟨q, hq, rfl, hbr, ho, hlt⟩ := hrel
    have HB := Lib.hid hbr
    have HO := Lib.hid ho
    have HLT := Lib.hid hlt
    have hsr : B + 3 ≤ wr.heap.size := by have := hbr.size; have := HSZ.out; omega
    have t0 := (hbr.cell (p := ⟨B, 0, none⟩) (by simp)).trans (HT.out 0 _ rfl)
    have t1 := (hbr.cell (p := ⟨B, 1, none⟩) (by simp)).trans (HT.out 1 _ rfl)
    have t2 := (hbr.cell (p := ⟨B, 2, none⟩) (by simp)).trans (HT.out 2 _ rfl)
    have x0 := (hbr.cell (p := ⟨B + 1, 0, none⟩) (by simp)).trans (HX.out 0 _ rfl)
    have x1 := (hbr.cell (p := ⟨B + 1, 1, none⟩) (by simp)).trans (HX.out 1 _ rfl)
    have x2 := (hbr.cell (p := ⟨B + 1, 2, none⟩) (by simp)).trans (HX.out 2 _ rfl)
    have x3 := (hbr.cell (p := ⟨B + 1, 3, none⟩) (by simp)).trans (HX.out 3 _ rfl)
    have hlen : (S.take q).length = q := by rw [List.length_take, ← HN.out]; omega
    clear ho hlt
    by_cases hqN : q < N
    · obtain ⟨b, off, rfl, hb, hc⟩ := HCL.out (by omega)
      obtain ⟨x, y, z, u, e1, g0, g1, g2, g3⟩ := hc q hqN
      have hbw : b < w.heap.size := by rw [← HBE.out]; exact hb
      have hb2 : b < B + 3 := by omega
      have k0 := (hbr.cell (p := ⟨b, off + q * 4, none⟩) hb2).trans ((HBB.out.cell (p := ⟨b, off + q * 4, none⟩) hbw).trans g0)
      have k1 := (hbr.cell (p := ⟨b, off + q * 4 + 1, none⟩) hb2).trans ((HBB.out.cell (p := ⟨b, off + q * 4 + 1, none⟩) hbw).trans g1)
      have k2 := (hbr.cell (p := ⟨b, off + q * 4 + 2, none⟩) hb2).trans ((HBB.out.cell (p := ⟨b, off + q * 4 + 2, none⟩) hbw).trans g2)
      have k3 := (hbr.cell (p := ⟨b, off + q * 4 + 3, none⟩) hb2).trans ((HBB.out.cell (p := ⟨b, off + q * 4 + 3, none⟩) hbw).trans g3)
      have hqq : (q : Int) < N := by omega
      have HE1 := Lib.hid e1
      by_cases hxi : x < id
      · have hsn : S.take (q + 1) = S.take q ++ [⟨x, y, z, u⟩] := by
          have hqs : q < S.length := by rw [← HN.out]; exact hqN
          rw [List.take_succ_eq_append_getElem hqs]
          rw [List.getD_eq_getElem?_getD, List.getElem?_eq_getElem hqs] at e1
          simp only [Option.getD_some] at e1
          rw [e1]
        have HSN := Lib.hid hsn
        generalize S.take q = lst at *
        unfold OwnSlots at HO
        rw [hlen] at HO
        clear hbr g0 g1 g2 g3 e1 hc hsn
        go_wp2_with fail
        go_quiet (fail)
        go_wp2_with (at_builtin; refine wpList_append_own _ rfl (.tmp 23) (.tmp 29) 52 rfl (B + 3) 29 i0 _ 4 32 Try.underlying52 hi hz0 hz1 hz2 rfl (by decide) _ _ _ rfl (by exact (owns_below HO.out ((below_drewN (Below.refl _ _) nq).alloc (Nat.le_refl _) _))) ⟨wr.heap.size, 0, none⟩ 1 1 [.int .i64 x, .int .i64 y, .int .i64 z, .int .i64 u] rfl rfl (news_at _ _ rfl #[.int .i64 x, .int .i64 y, .int .i64 z, .int .i64 u] 29) (by simp [Value.oneCell']) (by unfold maxLen; omega) (by omega) (by simp; omega) ?_)
        intro v' w8 hown8 hgrow hnil
        have HO8 := Lib.hid hown8
        have HG8 := Lib.hid hgrow
        clear hown8 hgrow hnil
        go_wp2_with fail
        go_roundw
        case rel =>
          refine ⟨q + 1, by omega, by go_num, ((below_drewN HB.out nq).alloc hsr _).grown HG8.out (by simp; omega) (fun g hg => ((World.ownsRow.lt HO.out) g hg).1), ?_, fun j hj => ?_⟩
          · rw [HSN.out]
            exact own_slot1 HO8.out
          · by_cases h : j = q
            · subst h; rw [HE1.out]; exact hxi
            · exact HLT.out j (by omega)
        case measure => simp [intOf]; omega
      · have dx : decide (x < id) = false := by simpa using hxi
        generalize hlst : S.take q = lst at *
        have HLST := Lib.hid hlst
        unfold OwnSlots at HO
        rw [hlen] at HO
        clear hbr g0 g1 g2 g3 e1 hc hlst
        go_wp2_with fail
        go_quiet (fail)
        go_wp2_with (at_builtin; refine wpList_append_own _ rfl (.tmp 33) (.tmp 35) 52 rfl (B + 3) 29 i0 _ 4 32 Try.underlying52 hi hz0 hz1 hz2 rfl (by decide) _ _ _ rfl (by exact (owns_below HO.out ((below_drewN (Below.refl _ _) nq).alloc (Nat.le_refl _) _))) ⟨wr.heap.size, 0, none⟩ 1 1 [.int .i64 id, .int .i64 frm, .int .i64 to, .int .i64 nd] rfl rfl (news_at _ _ rfl #[.int .i64 id, .int .i64 frm, .int .i64 to, .int .i64 nd] 29) (by simp [Value.oneCell']) (by unfold maxLen; omega) (by omega) (by simp; omega) ?_)
        intro v' w8 hown8 hgrow hnil
        have hB8 : Below (B + 3) wr w8 := ((below_drewN (Below.refl _ _) nq).alloc hsr _).grown hgrow (by simp; omega) (fun g hg => ((World.ownsRow.lt HO.out) g hg).1)
        have HO8 := Lib.hid hown8
        have t0 := (hB8.cell (p := ⟨B, 0, none⟩) (by simp)).trans t0
        have t1 := (hB8.cell (p := ⟨B, 1, none⟩) (by simp)).trans t1
        have t2 := (hB8.cell (p := ⟨B, 2, none⟩) (by simp)).trans t2
        have HB8 := Lib.hid hB8
        clear hown8 hgrow hnil hB8
        have hb8 : Below w.heap.size w w8 := by
          rw [← HBE.out]
          have h1 := HBB.out
          rw [← HBE.out] at h1
          exact h1.trans ((HB.out.trans HB8.out).mono (by omega))
        have HNW := Lib.hid (news_below hbw hb8 (drop_news HSL.out (by rw [← HN.out]; exact hqN)))
        have hdl : (flatL (S.drop q)).length = (N - q) * 4 := by rw [length_flatL, List.length_drop, ← HN.out]
        have h1c := oneCell_flatL (S.drop q)
        have hs8 : B + 3 ≤ w8.heap.size := Nat.le_trans hsr HB8.out.size
        have HDL := Lib.hid hdl
        have H1C := Lib.hid h1c
        clear hdl h1c hb8
        generalize hfd : flatL (S.drop q) = fd at *
        have HFD := Lib.hid hfd
        clear hfd
        go_wp2_with (at_builtin; refine wpList_append_own _ rfl (.tmp 37) (.tmp 41) 52 rfl (B + 3) 29 i0 _ 4 32 Try.underlying52 hi hz0 hz1 hz2 rfl (by decide) _ _ _ rfl HO8.out ⟨b, off + q * 4, none⟩ (N - q) (c1 - q) fd rfl HDL.out HNW.out H1C.out (by unfold maxLen; omega) (by omega) hs8 ?_)
        intro v9 w9 hown9 hgrow9 hnil9
        have hB9 : Below (B + 3) w8 w9 := (Below.refl _ _).grown hgrow9 hs8 (fun g hg => ((World.ownsRow.lt HO8.out) g hg).1)
        have HO9 := Lib.hid hown9
        have t0 := (hB9.cell (p := ⟨B, 0, none⟩) (by simp)).trans t0
        have t1 := (hB9.cell (p := ⟨B, 1, none⟩) (by simp)).trans t1
        have hBw9 := HB.out.trans (HB8.out.trans hB9)
        have f0 : w9.frozen? ⟨B + 1 + 1, 0, none⟩ = false := (hBw9.frozen (p := ⟨B + 2, 0, none⟩) (by simp)).trans (HFR.out 0)
        have f1 : w9.frozen? ⟨B + 1 + 1, 1, none⟩ = false := (hBw9.frozen (p := ⟨B + 2, 1, none⟩) (by simp)).trans (HFR.out 1)
        have f2 : w9.frozen? ⟨B + 1 + 1, 2, none⟩ = false := (hBw9.frozen (p := ⟨B + 2, 2, none⟩) (by simp)).trans (HFR.out 2)
        have r0 : w9.cell? ⟨B + 1 + 1, 0, none⟩ = some (.int .i64 0) := (hBw9.cell (p := ⟨B + 2, 0, none⟩) (by simp)).trans (HCR.out 0 _ rfl)
        have r1 : w9.cell? ⟨B + 1 + 1, 1, none⟩ = some (.slice none 0 0) := (hBw9.cell (p := ⟨B + 2, 1, none⟩) (by simp)).trans (HCR.out 1 _ rfl)
        have r2 : w9.cell? ⟨B + 1 + 1, 2, none⟩ = some (.slice none 0 0) := (hBw9.cell (p := ⟨B + 2, 2, none⟩) (by simp)).trans (HCR.out 2 _ rfl)
        have HBW9 := Lib.hid hBw9
        clear hown9 hgrow9 hnil9 hB9 hBw9
        obtain ⟨a5, c5, hv5, _, _⟩ := IsRow.shape (IsRow.of_owns HO9.out)
        go_wp2_with fail
        obtain ⟨s0, s1, s2⟩ := set3 (a := .int .i64 n) (b := .slice au mu cu) (c := .slice a5 (q + 1 + (N - q)) c5) r0 r1 r2
        refine bodyPost_ret (v := .agg #[.int .i64 n, .slice au mu cu, .slice a5 (q + 1 + (N - q)) c5]) (by simp [results, Try.f55]; go_simp) rfl ?_
        refine ⟨⟨_, q, rfl, by omega, HLT.out, fun _ => ?_, ?_⟩, ?_⟩
        · rw [HE1.out]; simp only; omega
        · rw [← hv5, ← HBE.out]
          have h9 := HO9.out
          rw [← HFD.out] at h9
          rw [HLST.out]
          have h11 : w9.ownsRow (B + 3) 29 4 v9 (q + 1 + (N - q)) (flatL lst ++ slotCells ⟨id, frm, to, nd⟩ ++ flatL (S.drop q)) := by rw [List.append_assoc]; exact h9
          have h10 := own_ins (owns_set3 (R := B + 1 + 1) (a := .int .i64 n) (b := .slice au mu cu) (c := v9) h11 (by omega))
          rw [hv5] at h10 ⊢
          exact OwnSlots.wider h10 (by omega)
        · have h1 := HBB.out
          rw [← HBE.out] at h1 ⊢
          exact below_set3 (h1.trans (HBW9.out.mono (by omega))) (by omega)
    · obtain rfl : q = N := by omega
      have hd : decide ((q : Int) < q) = false := by simp
      have hall : S.take q = S := by rw [List.take_of_length_le]; rw [HN.out]; exact Nat.le_refl _
      have hdr : S.drop q = [] := by rw [HN.out, List.drop_length]
      rw [hall] at HO
      have HALL := Lib.hid hall
      have HDR := Lib.hid hdr
      clear hbr hall hdr
      unfold OwnSlots at HO
      rw [← HN.out] at HO
      go_wp2_with fail
      go_quiet (fail)
      go_wp2_with (at_builtin; refine wpList_append_own _ rfl (.tmp 33) (.tmp 35) 52 rfl (B + 3) 29 i0 _ 4 32 Try.underlying52 hi hz0 hz1 hz2 rfl (by decide) _ _ _ rfl (by exact (owns_below HO.out ((below_drewN (Below.refl _ _) nq).alloc (Nat.le_refl _) _))) ⟨wr.heap.size, 0, none⟩ 1 1 [.int .i64 id, .int .i64 frm, .int .i64 to, .int .i64 nd] rfl rfl (news_at _ _ rfl #[.int .i64 id, .int .i64 frm, .int .i64 to, .int .i64 nd] 29) (by simp [Value.oneCell']) (by unfold maxLen; omega) (by omega) (by simp; omega) ?_)
      intro v' w8 hown8 hgrow hnil
      have hB8 : Below (B + 3) wr w8 := ((below_drewN (Below.refl _ _) nq).alloc hsr _).grown hgrow (by simp; omega) (fun g hg => ((World.ownsRow.lt HO.out) g hg).1)
      have HO8 := Lib.hid hown8
      have t0 := (hB8.cell (p := ⟨B, 0, none⟩) (by simp)).trans t0
      have t1 := (hB8.cell (p := ⟨B, 1, none⟩) (by simp)).trans t1
      have t2 := (hB8.cell (p := ⟨B, 2, none⟩) (by simp)).trans t2
      have HB8 := Lib.hid hB8
      clear hown8 hgrow hnil hB8
      have hs8 : B + 3 ≤ w8.heap.size := Nat.le_trans hsr HB8.out.size
      rcases a1 with _ | ⟨b, off, im⟩
      · obtain rfl : q = c1 := (HNO.out rfl).symm
        have hBw9 := HB.out.trans HB8.out
        have f0 : w8.frozen? ⟨B + 1 + 1, 0, none⟩ = false := (hBw9.frozen (p := ⟨B + 2, 0, none⟩) (by simp)).trans (HFR.out 0)
        have f1 : w8.frozen? ⟨B + 1 + 1, 1, none⟩ = false := (hBw9.frozen (p := ⟨B + 2, 1, none⟩) (by simp)).trans (HFR.out 1)
        have f2 : w8.frozen? ⟨B + 1 + 1, 2, none⟩ = false := (hBw9.frozen (p := ⟨B + 2, 2, none⟩) (by simp)).trans (HFR.out 2)
        have r0 : w8.cell? ⟨B + 1 + 1, 0, none⟩ = some (.int .i64 0) := (hBw9.cell (p := ⟨B + 2, 0, none⟩) (by simp)).trans (HCR.out 0 _ rfl)
        have r1 : w8.cell? ⟨B + 1 + 1, 1, none⟩ = some (.slice none 0 0) := (hBw9.cell (p := ⟨B + 2, 1, none⟩) (by simp)).trans (HCR.out 1 _ rfl)
        have r2 : w8.cell? ⟨B + 1 + 1, 2, none⟩ = some (.slice none 0 0) := (hBw9.cell (p := ⟨B + 2, 2, none⟩) (by simp)).trans (HCR.out 2 _ rfl)
        have HBW9 := Lib.hid hBw9
        clear hBw9
        obtain ⟨a5, c5, hv5, _, _⟩ := IsRow.shape (IsRow.of_owns HO8.out)
        subst hv5
        go_wp2_with (at_builtin; refine wpList_append_own_none rfl (.tmp 37) (.tmp 41) 52 rfl (B + 3) 29 i0 4 Try.underlying52 hi _ _ _ rfl HO8.out rfl ?_)
        obtain ⟨s0, s1, s2⟩ := set3 (a := .int .i64 n) (b := .slice au mu cu) (c := .slice a5 (q + 1) c5) r0 r1 r2
        refine bodyPost_ret (v := .agg #[.int .i64 n, .slice au mu cu, .slice a5 (q + 1) c5]) (by simp [results, Try.f55]; go_simp) rfl ?_
        refine ⟨⟨_, rfl, q, Nat.le_refl _, HLT.out, fun h => absurd h (Nat.lt_irrefl _), ?_⟩, ?_⟩
        · rw [← HBE.out]
          have h9 := HO8.out
          have h11 : w8.ownsRow (B + 3) 29 4 (.slice a5 (q + 1) c5) (q + 1) (flatL S ++ slotCells ⟨id, frm, to, nd⟩ ++ flatL []) := by rw [show flatL [] = [] from rfl, List.append_nil]; first | exact h9 | (rw [List.append_nil] at h9; exact h9)
          have h10 := own_ins (owns_set3 (R := B + 1 + 1) (a := .int .i64 n) (b := .slice au mu cu) (c := .slice a5 (q + 1) c5) h11 (by have := HBE.out; omega))
          rw [HALL.out, HDR.out]
          try rw [List.append_nil] at h10
          try rw [List.append_nil]
          exact OwnSlots.wider h10 (by have := HBE.out; omega)
        · have h1 := HBB.out
          rw [← HBE.out] at h1 ⊢
          exact below_set3 (h1.trans (HBW9.out.mono (by have := HBE.out; omega))) (by have := HBE.out; omega)
      · by_cases hcq : c1 = q
        · obtain rfl : q = c1 := hcq.symm
          go_wp2_with (at_builtin; refine wpList_append_own _ rfl (.tmp 37) (.tmp 41) 52 rfl (B + 3) 29 i0 _ 4 32 Try.underlying52 hi hz0 hz1 hz2 rfl (by decide) _ _ _ rfl HO8.out ⟨b, off, im⟩ 0 (0) [] rfl rfl (by intro j u hj; simp at hj) (by simp) (by unfold maxLen; omega) (by omega) hs8 ?_)
          intro v9 w9 hown9 hgrow9 hnil9
          have hB9 : Below (B + 3) w8 w9 := (Below.refl _ _).grown hgrow9 hs8 (fun g hg => ((World.ownsRow.lt HO8.out) g hg).1)
          have HO9 := Lib.hid hown9
          have t0 := (hB9.cell (p := ⟨B, 0, none⟩) (by simp)).trans t0
          have t1 := (hB9.cell (p := ⟨B, 1, none⟩) (by simp)).trans t1
          have hBw9 := HB.out.trans (HB8.out.trans hB9)
          clear hown9 hgrow9 hnil9 hB9
          have f0 : w9.frozen? ⟨B + 1 + 1, 0, none⟩ = false := (hBw9.frozen (p := ⟨B + 2, 0, none⟩) (by simp)).trans (HFR.out 0)
          have f1 : w9.frozen? ⟨B + 1 + 1, 1, none⟩ = false := (hBw9.frozen (p := ⟨B + 2, 1, none⟩) (by simp)).trans (HFR.out 1)
          have f2 : w9.frozen? ⟨B + 1 + 1, 2, none⟩ = false := (hBw9.frozen (p := ⟨B + 2, 2, none⟩) (by simp)).trans (HFR.out 2)
          have r0 : w9.cell? ⟨B + 1 + 1, 0, none⟩ = some (.int .i64 0) := (hBw9.cell (p := ⟨B + 2, 0, none⟩) (by simp)).trans (HCR.out 0 _ rfl)
          have r1 : w9.cell? ⟨B + 1 + 1, 1, none⟩ = some (.slice none 0 0) := (hBw9.cell (p := ⟨B + 2, 1, none⟩) (by simp)).trans (HCR.out 1 _ rfl)
          have r2 : w9.cell? ⟨B + 1 + 1, 2, none⟩ = some (.slice none 0 0) := (hBw9.cell (p := ⟨B + 2, 2, none⟩) (by simp)).trans (HCR.out 2 _ rfl)
          have HBW9 := Lib.hid hBw9
          clear hBw9
          obtain ⟨a5, c5, hv5, _, _⟩ := IsRow.shape (IsRow.of_owns HO9.out)
          go_wp2_with fail
          obtain ⟨s0, s1, s2⟩ := set3 (a := .int .i64 n) (b := .slice au mu cu) (c := .slice a5 (q + 1 + 0) c5) r0 r1 r2
          refine bodyPost_ret (v := .agg #[.int .i64 n, .slice au mu cu, .slice a5 (q + 1 + 0) c5]) (by simp [results, Try.f55]; go_simp) rfl ?_
          refine ⟨⟨_, q, rfl, Nat.le_refl _, HLT.out, fun h => absurd h (Nat.lt_irrefl _), ?_⟩, ?_⟩
          · rw [← hv5, ← HBE.out]
            have h9 := HO9.out
            have h11 : w9.ownsRow (B + 3) 29 4 v9 (q + 1 + 0) (flatL S ++ slotCells ⟨id, frm, to, nd⟩ ++ flatL []) := by rw [show flatL [] = [] from rfl, List.append_nil]; first | exact h9 | (rw [List.append_nil] at h9; exact h9)
            have h10 := own_ins (owns_set3 (R := B + 1 + 1) (a := .int .i64 n) (b := .slice au mu cu) (c := v9) h11 (by omega))
            rw [hv5] at h10 ⊢
            rw [HALL.out, HDR.out]
            exact OwnSlots.wider h10 (by omega)
          · have h1 := HBB.out
            rw [← HBE.out] at h1 ⊢
            exact below_set3 (h1.trans (HBW9.out.mono (by omega))) (by omega)
        · have hcq2 : q < c1 := by omega
          go_wp2_with (at_builtin; refine wpList_append_own _ rfl (.tmp 37) (.tmp 41) 52 rfl (B + 3) 29 i0 _ 4 32 Try.underlying52 hi hz0 hz1 hz2 rfl (by decide) _ _ _ rfl HO8.out ((⟨b, off, im⟩ : Addr).add (q * 4)) 0 (c1 - q) [] rfl rfl (by intro j u hj; simp at hj) (by simp) (by unfold maxLen; omega) (by omega) hs8 ?_)
          intro v9 w9 hown9 hgrow9 hnil9
          have hB9 : Below (B + 3) w8 w9 := (Below.refl _ _).grown hgrow9 hs8 (fun g hg => ((World.ownsRow.lt HO8.out) g hg).1)
          have HO9 := Lib.hid hown9
          have t0 := (hB9.cell (p := ⟨B, 0, none⟩) (by simp)).trans t0
          have t1 := (hB9.cell (p := ⟨B, 1, none⟩) (by simp)).trans t1
          have hBw9 := HB.out.trans (HB8.out.trans hB9)
          clear hown9 hgrow9 hnil9 hB9
          have f0 : w9.frozen? ⟨B + 1 + 1, 0, none⟩ = false := (hBw9.frozen (p := ⟨B + 2, 0, none⟩) (by simp)).trans (HFR.out 0)
          have f1 : w9.frozen? ⟨B + 1 + 1, 1, none⟩ = false := (hBw9.frozen (p := ⟨B + 2, 1, none⟩) (by simp)).trans (HFR.out 1)
          have f2 : w9.frozen? ⟨B + 1 + 1, 2, none⟩ = false := (hBw9.frozen (p := ⟨B + 2, 2, none⟩) (by simp)).trans (HFR.out 2)
          have r0 : w9.cell? ⟨B + 1 + 1, 0, none⟩ = some (.int .i64 0) := (hBw9.cell (p := ⟨B + 2, 0, none⟩) (by simp)).trans (HCR.out 0 _ rfl)
          have r1 : w9.cell? ⟨B + 1 + 1, 1, none⟩ = some (.slice none 0 0) := (hBw9.cell (p := ⟨B + 2, 1, none⟩) (by simp)).trans (HCR.out 1 _ rfl)
          have r2 : w9.cell? ⟨B + 1 + 1, 2, none⟩ = some (.slice none 0 0) := (hBw9.cell (p := ⟨B + 2, 2, none⟩) (by simp)).trans (HCR.out 2 _ rfl)
          have HBW9 := Lib.hid hBw9
          clear hBw9
          obtain ⟨a5, c5, hv5, _, _⟩ := IsRow.shape (IsRow.of_owns HO9.out)
          go_wp2_with fail
          obtain ⟨s0, s1, s2⟩ := set3 (a := .int .i64 n) (b := .slice au mu cu) (c := .slice a5 (q + 1 + 0) c5) r0 r1 r2
          refine bodyPost_ret (v := .agg #[.int .i64 n, .slice au mu cu, .slice a5 (q + 1 + 0) c5]) (by simp [results, Try.f55]; go_simp) rfl ?_
          refine ⟨⟨_, q, rfl, Nat.le_refl _, HLT.out, fun h => absurd h (Nat.lt_irrefl _), ?_⟩, ?_⟩
          · rw [← hv5, ← HBE.out]
            have h9 := HO9.out
            have h11 : w9.ownsRow (B + 3) 29 4 v9 (q + 1 + 0) (flatL S ++ slotCells ⟨id, frm, to, nd⟩ ++ flatL []) := by rw [show flatL [] = [] from rfl, List.append_nil]; first | exact h9 | (rw [List.append_nil] at h9; exact h9)
            have h10 := own_ins (owns_set3 (R := B + 1 + 1) (a := .int .i64 n) (b := .slice au mu cu) (c := v9) h11 (by omega))
            rw [hv5] at h10 ⊢
            rw [HALL.out, HDR.out]
            exact OwnSlots.wider h10 (by omega)
          · have h1 := HBB.out
            rw [← HBE.out] at h1 ⊢
            exact below_set3 (h1.trans (HBW9.out.mono (by omega))) (by omega)

end Go.Proofs.Ytjknmnmilladlaa
