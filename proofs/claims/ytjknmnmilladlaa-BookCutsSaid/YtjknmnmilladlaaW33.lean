/-
  Walk: the law BookCuts.
-/
import Derived.Test.YtjknmnmilladlaaW32
import Derived.Test.YtjknmnmilladlaaOpen
import Derived.Test.YtjknmnmilladlaaP15
namespace Go.Proofs.Ytjknmnmilladlaa
open Go.RowKit

def Yes (w : World) (e : Ending) (w' : World) : Prop := e = .returned (.bool true) ∧ Below w.heap.size w w'

theorem IsDos.shape {w : World} {v : Value} {l : List Do} (h : IsDos w v l) : ∃ ao cap, v = .slice ao l.length cap ∧ l.length ≤ cap ∧ cap ≤ 9223372036854775807 := IsRow.shape h

set_option maxHeartbeats 8000000 in
set_option maxRecDepth 100000 in
theorem cutsKnown (g id to t : Int) {w : World} {v : Value} {l : List Do} (h : IsDos w v l) (hc : 40 < l.length ∨ t < 0 ∨ 1099511627775 < t) : Calls Try.prog 4 #[.int .u8 g, v, .int .i64 id, .int .i64 to, .int .i64 t] w (Yes w) := by
  obtain ⟨ao, cap, rfl, p1, p2⟩ := h.shape
  obtain ⟨N, hN⟩ : ∃ N, N = l.length := ⟨_, rfl⟩
  rw [← hN] at hc p1 ⊢
  clear h hN
  have hcases : decide ((40 : Int) < N) = true ∨ (decide ((40 : Int) < N) = false ∧ decide (t < 0) = true) ∨ (decide ((40 : Int) < N) = false ∧ decide (t < 0) = false ∧ decide (1099511627775 < t) = true) := by
    simp only [decide_eq_true_eq, decide_eq_false_iff_not]
    omega
  clear hc
  rcases hcases with d1 | ⟨d1, d2⟩ | ⟨d1, d2, d3⟩
  all_goals
    go_enter Try.func4, Try.ntmps4
    go_wp2_with fail
    refine (knownYes _).mono ?_
    rintro e w1 ⟨rfl, hb1⟩
    have HB := Lib.hid hb1
    clear hb1
    go_wp2_with fail
    go_ret
    exact ⟨rfl, HB.out⟩

set_option maxHeartbeats 8000000 in
set_option maxRecDepth 100000 in
theorem cutsMain (g id to t : Int) {w : World} {v : Value} {l : List Do} (h : IsDos w v l) (g1 : 0 ≤ g) (g2 : g ≤ 255) (hl : l.length ≤ 40) (ht0 : 0 ≤ t) (ht1 : t ≤ 1099511627775) : Calls Try.prog 4 #[.int .u8 g, v, .int .i64 id, .int .i64 to, .int .i64 t] w (Yes w) := by
  have HN := Lib.hid (newYes (1 + g) w (by omega) (by omega))
  have HI0 := Lib.hid (Inv.new (n := 1 + g) (by omega) (by omega))
  obtain ⟨N, hN⟩ : ∃ N, N = l.length := ⟨_, rfl⟩
  have hC : ∀ i, i < N → ∃ b o cap, v = .slice (some ⟨b, o, none⟩) N cap ∧ b < w.heap.size ∧ N ≤ cap ∧ cap ≤ 9223372036854775807 ∧ ∀ j u, (doCells (l.getD i default))[j]? = some u → w.cell? ⟨b, o + i * 5 + j, none⟩ = some u := by
    intro i hi
    obtain ⟨b, o, cap, h0, h1, h2, h3, h4⟩ := doAtV h (by omega)
    exact ⟨b, o, cap, by rw [hN]; exact h0, h3, by omega, h2, h4 i (by omega)⟩
  obtain ⟨ao, cap, rfl, p1, p2⟩ := h.shape
  rw [← hN] at hl p1 hC ⊢
  have HC := Lib.hid hC
  have d1 : decide ((40 : Int) < N) = false := by simp; omega
  have d2 : decide (t < 0) = false := by simp; omega
  have d3 : decide (1099511627775 < t) = false := by simp; omega
  have hw1 : IntKind.i64.wrap (1 + g) = 1 + g := small_wrap (by omega) (by omega)
  clear h hN hC
  go_enter Try.func4, Try.ntmps4
  go_wp2_with fail
  refine (HN.out).mono ?_
  rintro e w1 ⟨⟨bk, bm, rfl, hk, h1, h2⟩, hb1⟩
  have HK := Lib.hid hk
  have HB := Lib.hid hb1
  clear hk hb1
  go_wp2_with fail
  go_loopw [13] (fun i wr => ∃ (k : Nat) (up fr : List Step) (L : List Slot), k ≤ N ∧ i = .int .i64 k ∧ Below w.heap.size w wr ∧ BookIs wr bk bm (1 + g) up fr L ∧ Inv (1 + g) up fr L) (fun i _ => N - (intOf i).toNat)
  case atStart => exact ⟨0, _, _, _, by omega, rfl, HB.out, HK.out, HI0.out⟩
  case round =>
    obtain ⟨k, up, fr, L, hk, rfl, hb, hbk, hI⟩ := hrel
    clear HK HB HI0
    have HB := Lib.hid hb
    have HK := Lib.hid hbk
    have HI := Lib.hid hI
    by_cases hkN : k < N
    · obtain ⟨b, o, cap2, e0, hbw, hNc, hcap, hcell⟩ := HC.out k hkN
      cases e0
      obtain ⟨d, hd⟩ : ∃ d, d = l.getD k default := ⟨_, rfl⟩
      rw [← hd] at hcell
      have hkk : (k : Int) < N := by omega
      have hcc : ∀ j u, (doCells d)[j]? = some u → wr.cell? ⟨b, o + k * 5 + j, none⟩ = some u := fun j u hu => (hb.cell (p := ⟨b, o + k * 5 + j, none⟩) hbw).trans (hcell j u hu)
      have q0 : wr.cell? ⟨b, o + k * 5, none⟩ = some (.int .i64 d.kind) := hcc 0 _ rfl
      have q1 := hcc 1 _ rfl
      have q2 := hcc 2 _ rfl
      have q3 := hcc 3 _ rfl
      have q4 := hcc 4 _ rfl
      have HD := Lib.hid (doneAny hbk hI d)
      unfold doV at HD
      clear hcell hcc hb hbk hI hd
      go_wp2_with fail
      refine (HD.out).mono ?_
      rintro e w2 ⟨u, ids, err, up2, fr2, L2, rfl, hv2, hd2, hk2, hK2⟩
      have hb2 := HB.out.trans (hK2.below h1 h2 HB.out.size)
      have hI2 := hd2.inv HI.out
      have HB2 := Lib.hid hb2
      have HK2 := Lib.hid hk2
      have HI2 := Lib.hid hI2
      clear hv2 hd2 hk2 hK2 hb2 hI2
      go_wp2_with fail
      go_roundw
      case rel => exact ⟨k + 1, up2, fr2, L2, by omega, by go_num, HB2.out, HK2.out, HI2.out⟩
      case measure => simp [intOf]; omega
    · obtain rfl : k = N := by omega
      have hd9 : decide ((k : Int) < k) = false := by simp
      clear hb hbk hI
      rcases any_id (L := L) (id := id) with ⟨s, hs, hid⟩ | hns
      · obtain ⟨sid, f0, t0, q⟩ := s
        simp only at hid
        subst hid
        have HG := Lib.hid (getYes HK.out hs)
        have HSL := Lib.hid hs
        have hri := right_iff.1 (HI.out.rt _ hs)
        simp only at hri
        have hnn := HI.out.n1
        clear hs
        unfold slotV at HG
        simp only at HG
        go_wp2_with fail
        refine (HG.out).mono ?_
        rintro e w2 ⟨rfl, hb2⟩
        have HK2 := Lib.hid ((HK.out.below hb2).alloc (.cells #[.int .i64 sid, .int .i64 f0, .int .i64 t0, .int .i64 q] 29))
        have HB2 := Lib.hid ((HB.out.trans (hb2.mono HB.out.size)).alloc (Nat.le_trans HB.out.size hb2.size) (.cells #[.int .i64 sid, .int .i64 f0, .int .i64 t0, .int .i64 q] 29))
        have hx1 : bk < w2.heap.size := (HK.out.below hb2).lt
        have hx2 : bm < w2.heap.size := (HK.out.below hb2).map.lt
        have HS := Lib.hid (stepsAny HK2.out (by have := HI.out.flen; omega))
        clear hb2
        go_wp2_with fail
        refine (HS.out).mono ?_
        rintro e w3 ⟨⟨v3, rfl, hv3⟩, hb3⟩
        have x1 := cell_thru hb3 (cell_new w2 #[.int .i64 sid, .int .i64 f0, .int .i64 t0, .int .i64 q] 29 1 rfl)
        have x2 := cell_thru hb3 (cell_new w2 #[.int .i64 sid, .int .i64 f0, .int .i64 t0, .int .i64 q] 29 2 rfl)
        have x3 := cell_thru hb3 (cell_new w2 #[.int .i64 sid, .int .i64 f0, .int .i64 t0, .int .i64 q] 29 3 rfl)
        have HK3 := Lib.hid (HK2.out.below hb3)
        have HB3 := Lib.hid (HB2.out.trans (hb3.mono HB2.out.size))
        have HCU := Lib.hid (cutAll HK3.out HI.out ⟨3, ⟨sid, 0, to, 0⟩⟩ rfl)
        have hap : Apart bk v3 := Apart.own hv3 HK2.out.lt
        have HAP := Lib.hid hap
        have HV3a := Lib.hid hv3.is
        simp only at HCU
        obtain ⟨X, hX⟩ : ∃ X, X = w2.heap.size := ⟨_, rfl⟩
        rw [← hX] at x1 x2 x3
        have HX := Lib.hid hX
        have hXk : X ≠ bk := by omega
        have hXm : X ≠ bm := by omega
        rw [← hX]
        clear hv3 hb3 hap hX
        go_wp2_with fail
        refine (HCU.out).mono ?_
        rintro e w4 ⟨err, up2, fr2, L2, rfl, hd, hk4, hK4⟩
        have y1 := kept_cell hK4 x1 hXk hXm
        have y2 := kept_cell hK4 x2 hXk hXm
        have y3 := kept_cell hK4 x3 hXk hXm
        have HV3 := Lib.hid (show IsSteps w4 v3 fr from IsRow.kept (by decide) HV3a.out hK4 HAP.out HK3.out.map)
        have HB4 := Lib.hid (HB3.out.trans (hK4.below h1 h2 HB3.out.size))
        have HI4 := Lib.hid (hd.inv HI.out)
        have HCV := Lib.hid (fun hto he => cut_val HI.out HSL.out ht0 ht1 (to := to) hto rfl rfl rfl hd he)
        have HKE := Lib.hid hk4
        clear x1 x2 x3
        obtain ⟨_, _, h3 | ⟨x, hx, hxid, h3⟩⟩ := hd.cut_inv rfl
        · exact absurd (show sid = sid from rfl) (h3.2.2.1 ⟨sid, f0, t0, q⟩ HSL.out)
        have hxs : x = ⟨sid, f0, t0, q⟩ := slot_one HI.out.ids hx HSL.out hxid
        subst hxs
        simp only at h3
        clear hx hxid hd
        rcases h3 with ⟨rfl, rfl, _, rfl⟩ | ⟨rfl, _, hto, hto2, rfl, rfl⟩ | ⟨rfl, _, hto, hto2, _, rfl, rfl⟩
        · have HS2 := Lib.hid (stepsAny hk4 (by have := HI.out.flen; omega))
          clear hk4 hK4
          go_wp2_with fail
          refine (HS2.out).mono ?_
          rintro e w5 ⟨⟨v5, rfl, hv5⟩, hb5⟩
          have HSA := Lib.hid (sameStepsT hv5.is (HV3.out.below hb5) rfl)
          have HB5 := Lib.hid (HB4.out.trans (hb5.mono HB4.out.size))
          clear hv5 hb5
          go_wp2_with fail
          refine (HSA.out).mono ?_
          rintro e w6 ⟨rfl, hb6⟩
          have HB6 := Lib.hid (HB5.out.trans (hb6.mono HB5.out.size))
          clear hb6
          go_wp2_with fail
          refine (knownYes _).mono ?_
          rintro e w7 ⟨rfl, hb7⟩
          have HB7 := Lib.hid (HB6.out.trans (hb7.mono HB6.out.size))
          clear hb7
          go_wp2_with fail
          go_ret
          exact ⟨rfl, HB7.out⟩
        · have HAT := Lib.hid (atAny HV3.out t)
          have hcv := HCV.out hto rfl
          simp only at hcv
          generalize addRes fr f0 t0 q = fr5 at *
          generalize hat : atOf fr t = at0 at *
          generalize hat2 : atOf fr5 t = at1 at *
          have hr0 := atOf_range HI.out.vf t
          rw [hat] at hr0
          have HA0 := Lib.hid hat
          have HA1 := Lib.hid hat2
          have hgt : decide (f0 < to) = false := by simp; omega
          clear hk4 hK4 hat hat2
          have hcases : ∃ n1 : Int, n1 = at1 ∧ ((decide (to ≤ t) = false ∧ n1 = at0) ∨ (decide (to ≤ t) = true ∧ decide (f0 ≤ t) = false ∧ n1 = at0) ∨ (decide (to ≤ t) = true ∧ decide (f0 ≤ t) = true ∧ decide (t < t0) = false ∧ n1 = at0) ∨ (decide (to ≤ t) = true ∧ decide (f0 ≤ t) = true ∧ decide (t < t0) = true ∧ n1 = at0 + q)) := by
            refine ⟨_, rfl, ?_⟩
            simp only [decide_eq_true_eq, decide_eq_false_iff_not]
            by_cases hc : to ≤ t ∧ f0 ≤ t ∧ t < t0
            · rw [if_pos hc] at hcv; exact .inr (.inr (.inr ⟨hc.1, hc.2.1, hc.2.2, hcv⟩))
            · rw [if_neg hc] at hcv; omega
          clear hcv HCV
          obtain ⟨n1, hn1, hcs⟩ := hcases
          have HN1 := Lib.hid hn1
          clear hn1
          rcases hcs with ⟨c1, hn⟩ | ⟨c1, c2, hn⟩ | ⟨c1, c2, c3, hn⟩ | ⟨c1, c2, c3, hn⟩
          · have HNE := Lib.hid hn
            have hwq : IntKind.i64.wrap (at0 + q) = at0 + q := small_wrap (by omega) (by omega)
            clear hn
            go_wp2_with fail
            refine (HAT.out).mono ?_
            rintro e w5 ⟨rfl, hb5⟩
            have z1 := cell_thru hb5 y1
            have z2 := cell_thru hb5 y2
            have z3 := cell_thru hb5 y3
            have HK5 := Lib.hid (HKE.out.below hb5)
            have HB5 := Lib.hid (HB4.out.trans (hb5.mono HB4.out.size))
            clear hb5
            have HG2 := Lib.hid (getNo (id := sid) HK5.out (without_no L sid))
            unfold slotV at HG2
            simp only at HG2
            go_wp2_with fail
            refine (HG2.out).mono ?_
            rintro e w6 ⟨rfl, hb6⟩
            have HK6 := Lib.hid ((HK5.out.below hb6).alloc (.cells #[.int .i64 0, .int .i64 0, .int .i64 0, .int .i64 0] 29))
            have z4 := cell_old (.cells #[.int .i64 0, .int .i64 0, .int .i64 0, .int .i64 0] 29) (cell_thru hb6 z1)
            have z5 := cell_new w6 #[.int .i64 0, .int .i64 0, .int .i64 0, .int .i64 0] 29 1 rfl
            have z6 := cell_new w6 #[.int .i64 0, .int .i64 0, .int .i64 0, .int .i64 0] 29 2 rfl
            have HB6 := Lib.hid ((HB5.out.trans (hb6.mono HB5.out.size)).alloc (Nat.le_trans HB5.out.size hb6.size) (.cells #[.int .i64 0, .int .i64 0, .int .i64 0, .int .i64 0] 29))
            have HS5 := Lib.hid (stepsAny HK6.out (by have := HI4.out.flen; omega))
            clear hb6
            go_wp2_with fail
            refine (HS5.out).mono ?_
            rintro e w7 ⟨⟨v7, rfl, hv7⟩, hb7⟩
            have HB7 := Lib.hid (HB6.out.trans (hb7.mono HB6.out.size))
            have HA7 := Lib.hid (atAny hv7.is t)
            have z7 := cell_thru hb7 z4
            have z8 := cell_thru hb7 z5
            have z9 := cell_thru hb7 z6
            clear hv7 hb7
            rw [HA1.out] at HA7
            go_wp2_with fail
            refine (HA7.out).mono ?_
            rintro e w8 ⟨rfl, hb8⟩
            have HB8 := Lib.hid (HB7.out.trans (hb8.mono HB7.out.size))
            have za := cell_thru hb8 z7
            have zb := cell_thru hb8 z8
            have zc := cell_thru hb8 z9
            clear hb8
            have hbe : (at1 == at0) = true := by
              have h1 := HN1.out
              have h2 := HNE.out
              simp
              omega
            go_wp2_with fail
            refine (knownYes _).mono ?_
            rintro e w9 ⟨rfl, hb9⟩
            have HB9 := Lib.hid (HB8.out.trans (hb9.mono HB8.out.size))
            clear hb9
            go_wp2_with fail
            go_ret
            exact ⟨rfl, HB9.out⟩
          · have HNE := Lib.hid hn
            have hwq : IntKind.i64.wrap (at0 + q) = at0 + q := small_wrap (by omega) (by omega)
            clear hn
            go_wp2_with fail
            refine (HAT.out).mono ?_
            rintro e w5 ⟨rfl, hb5⟩
            have z1 := cell_thru hb5 y1
            have z2 := cell_thru hb5 y2
            have z3 := cell_thru hb5 y3
            have HK5 := Lib.hid (HKE.out.below hb5)
            have HB5 := Lib.hid (HB4.out.trans (hb5.mono HB4.out.size))
            clear hb5
            have HG2 := Lib.hid (getNo (id := sid) HK5.out (without_no L sid))
            unfold slotV at HG2
            simp only at HG2
            go_wp2_with fail
            refine (HG2.out).mono ?_
            rintro e w6 ⟨rfl, hb6⟩
            have HK6 := Lib.hid ((HK5.out.below hb6).alloc (.cells #[.int .i64 0, .int .i64 0, .int .i64 0, .int .i64 0] 29))
            have z4 := cell_old (.cells #[.int .i64 0, .int .i64 0, .int .i64 0, .int .i64 0] 29) (cell_thru hb6 z1)
            have z5 := cell_new w6 #[.int .i64 0, .int .i64 0, .int .i64 0, .int .i64 0] 29 1 rfl
            have z6 := cell_new w6 #[.int .i64 0, .int .i64 0, .int .i64 0, .int .i64 0] 29 2 rfl
            have HB6 := Lib.hid ((HB5.out.trans (hb6.mono HB5.out.size)).alloc (Nat.le_trans HB5.out.size hb6.size) (.cells #[.int .i64 0, .int .i64 0, .int .i64 0, .int .i64 0] 29))
            have HS5 := Lib.hid (stepsAny HK6.out (by have := HI4.out.flen; omega))
            clear hb6
            go_wp2_with fail
            refine (HS5.out).mono ?_
            rintro e w7 ⟨⟨v7, rfl, hv7⟩, hb7⟩
            have HB7 := Lib.hid (HB6.out.trans (hb7.mono HB6.out.size))
            have HA7 := Lib.hid (atAny hv7.is t)
            have z7 := cell_thru hb7 z4
            have z8 := cell_thru hb7 z5
            have z9 := cell_thru hb7 z6
            clear hv7 hb7
            rw [HA1.out] at HA7
            go_wp2_with fail
            refine (HA7.out).mono ?_
            rintro e w8 ⟨rfl, hb8⟩
            have HB8 := Lib.hid (HB7.out.trans (hb8.mono HB7.out.size))
            have za := cell_thru hb8 z7
            have zb := cell_thru hb8 z8
            have zc := cell_thru hb8 z9
            clear hb8
            have hbe : (at1 == at0) = true := by
              have h1 := HN1.out
              have h2 := HNE.out
              simp
              omega
            go_wp2_with fail
            refine (knownYes _).mono ?_
            rintro e w9 ⟨rfl, hb9⟩
            have HB9 := Lib.hid (HB8.out.trans (hb9.mono HB8.out.size))
            clear hb9
            go_wp2_with fail
            go_ret
            exact ⟨rfl, HB9.out⟩
          · have HNE := Lib.hid hn
            have hwq : IntKind.i64.wrap (at0 + q) = at0 + q := small_wrap (by omega) (by omega)
            clear hn
            go_wp2_with fail
            refine (HAT.out).mono ?_
            rintro e w5 ⟨rfl, hb5⟩
            have z1 := cell_thru hb5 y1
            have z2 := cell_thru hb5 y2
            have z3 := cell_thru hb5 y3
            have HK5 := Lib.hid (HKE.out.below hb5)
            have HB5 := Lib.hid (HB4.out.trans (hb5.mono HB4.out.size))
            clear hb5
            have HG2 := Lib.hid (getNo (id := sid) HK5.out (without_no L sid))
            unfold slotV at HG2
            simp only at HG2
            go_wp2_with fail
            refine (HG2.out).mono ?_
            rintro e w6 ⟨rfl, hb6⟩
            have HK6 := Lib.hid ((HK5.out.below hb6).alloc (.cells #[.int .i64 0, .int .i64 0, .int .i64 0, .int .i64 0] 29))
            have z4 := cell_old (.cells #[.int .i64 0, .int .i64 0, .int .i64 0, .int .i64 0] 29) (cell_thru hb6 z1)
            have z5 := cell_new w6 #[.int .i64 0, .int .i64 0, .int .i64 0, .int .i64 0] 29 1 rfl
            have z6 := cell_new w6 #[.int .i64 0, .int .i64 0, .int .i64 0, .int .i64 0] 29 2 rfl
            have HB6 := Lib.hid ((HB5.out.trans (hb6.mono HB5.out.size)).alloc (Nat.le_trans HB5.out.size hb6.size) (.cells #[.int .i64 0, .int .i64 0, .int .i64 0, .int .i64 0] 29))
            have HS5 := Lib.hid (stepsAny HK6.out (by have := HI4.out.flen; omega))
            clear hb6
            go_wp2_with fail
            refine (HS5.out).mono ?_
            rintro e w7 ⟨⟨v7, rfl, hv7⟩, hb7⟩
            have HB7 := Lib.hid (HB6.out.trans (hb7.mono HB6.out.size))
            have HA7 := Lib.hid (atAny hv7.is t)
            have z7 := cell_thru hb7 z4
            have z8 := cell_thru hb7 z5
            have z9 := cell_thru hb7 z6
            clear hv7 hb7
            rw [HA1.out] at HA7
            go_wp2_with fail
            refine (HA7.out).mono ?_
            rintro e w8 ⟨rfl, hb8⟩
            have HB8 := Lib.hid (HB7.out.trans (hb8.mono HB7.out.size))
            have za := cell_thru hb8 z7
            have zb := cell_thru hb8 z8
            have zc := cell_thru hb8 z9
            clear hb8
            have hbe : (at1 == at0) = true := by
              have h1 := HN1.out
              have h2 := HNE.out
              simp
              omega
            go_wp2_with fail
            refine (knownYes _).mono ?_
            rintro e w9 ⟨rfl, hb9⟩
            have HB9 := Lib.hid (HB8.out.trans (hb9.mono HB8.out.size))
            clear hb9
            go_wp2_with fail
            go_ret
            exact ⟨rfl, HB9.out⟩
          · have HNE := Lib.hid hn
            have hwq : IntKind.i64.wrap (at0 + q) = at0 + q := small_wrap (by omega) (by omega)
            clear hn
            go_wp2_with fail
            refine (HAT.out).mono ?_
            rintro e w5 ⟨rfl, hb5⟩
            have z1 := cell_thru hb5 y1
            have z2 := cell_thru hb5 y2
            have z3 := cell_thru hb5 y3
            have HK5 := Lib.hid (HKE.out.below hb5)
            have HB5 := Lib.hid (HB4.out.trans (hb5.mono HB4.out.size))
            clear hb5
            have HG2 := Lib.hid (getNo (id := sid) HK5.out (without_no L sid))
            unfold slotV at HG2
            simp only at HG2
            go_wp2_with fail
            refine (HG2.out).mono ?_
            rintro e w6 ⟨rfl, hb6⟩
            have HK6 := Lib.hid ((HK5.out.below hb6).alloc (.cells #[.int .i64 0, .int .i64 0, .int .i64 0, .int .i64 0] 29))
            have z4 := cell_old (.cells #[.int .i64 0, .int .i64 0, .int .i64 0, .int .i64 0] 29) (cell_thru hb6 z1)
            have z5 := cell_new w6 #[.int .i64 0, .int .i64 0, .int .i64 0, .int .i64 0] 29 1 rfl
            have z6 := cell_new w6 #[.int .i64 0, .int .i64 0, .int .i64 0, .int .i64 0] 29 2 rfl
            have HB6 := Lib.hid ((HB5.out.trans (hb6.mono HB5.out.size)).alloc (Nat.le_trans HB5.out.size hb6.size) (.cells #[.int .i64 0, .int .i64 0, .int .i64 0, .int .i64 0] 29))
            have HS5 := Lib.hid (stepsAny HK6.out (by have := HI4.out.flen; omega))
            clear hb6
            go_wp2_with fail
            refine (HS5.out).mono ?_
            rintro e w7 ⟨⟨v7, rfl, hv7⟩, hb7⟩
            have HB7 := Lib.hid (HB6.out.trans (hb7.mono HB6.out.size))
            have HA7 := Lib.hid (atAny hv7.is t)
            have z7 := cell_thru hb7 z4
            have z8 := cell_thru hb7 z5
            have z9 := cell_thru hb7 z6
            clear hv7 hb7
            rw [HA1.out] at HA7
            go_wp2_with fail
            refine (HA7.out).mono ?_
            rintro e w8 ⟨rfl, hb8⟩
            have HB8 := Lib.hid (HB7.out.trans (hb8.mono HB7.out.size))
            have za := cell_thru hb8 z7
            have zb := cell_thru hb8 z8
            have zc := cell_thru hb8 z9
            clear hb8
            have hbe : (at1 == at0 + q) = true := by
              have h1 := HN1.out
              have h2 := HNE.out
              simp
              omega
            go_wp2_with fail
            refine (knownYes _).mono ?_
            rintro e w9 ⟨rfl, hb9⟩
            have HB9 := Lib.hid (HB8.out.trans (hb9.mono HB8.out.size))
            clear hb9
            go_wp2_with fail
            go_ret
            exact ⟨rfl, HB9.out⟩
        · have HAT := Lib.hid (atAny HV3.out t)
          have hcv := HCV.out hto rfl
          simp only at hcv
          generalize addRes (addRes fr f0 t0 q) f0 to (-q) = fr5 at *
          generalize hat : atOf fr t = at0 at *
          generalize hat2 : atOf fr5 t = at1 at *
          have hr0 := atOf_range HI.out.vf t
          rw [hat] at hr0
          have HA0 := Lib.hid hat
          have HA1 := Lib.hid hat2
          have hgt : decide (f0 < to) = true := by simp; omega
          clear hk4 hK4 hat hat2
          have hcases : ∃ n1 : Int, n1 = at1 ∧ ((decide (to ≤ t) = false ∧ n1 = at0) ∨ (decide (to ≤ t) = true ∧ decide (f0 ≤ t) = false ∧ n1 = at0) ∨ (decide (to ≤ t) = true ∧ decide (f0 ≤ t) = true ∧ decide (t < t0) = false ∧ n1 = at0) ∨ (decide (to ≤ t) = true ∧ decide (f0 ≤ t) = true ∧ decide (t < t0) = true ∧ n1 = at0 + q)) := by
            refine ⟨_, rfl, ?_⟩
            simp only [decide_eq_true_eq, decide_eq_false_iff_not]
            by_cases hc : to ≤ t ∧ f0 ≤ t ∧ t < t0
            · rw [if_pos hc] at hcv; exact .inr (.inr (.inr ⟨hc.1, hc.2.1, hc.2.2, hcv⟩))
            · rw [if_neg hc] at hcv; omega
          clear hcv HCV
          obtain ⟨n1, hn1, hcs⟩ := hcases
          have HN1 := Lib.hid hn1
          clear hn1
          rcases hcs with ⟨c1, hn⟩ | ⟨c1, c2, hn⟩ | ⟨c1, c2, c3, hn⟩ | ⟨c1, c2, c3, hn⟩
          · have HNE := Lib.hid hn
            have hwq : IntKind.i64.wrap (at0 + q) = at0 + q := small_wrap (by omega) (by omega)
            clear hn
            go_wp2_with fail
            refine (HAT.out).mono ?_
            rintro e w5 ⟨rfl, hb5⟩
            have z1 := cell_thru hb5 y1
            have z2 := cell_thru hb5 y2
            have z3 := cell_thru hb5 y3
            have HK5 := Lib.hid (HKE.out.below hb5)
            have HB5 := Lib.hid (HB4.out.trans (hb5.mono HB4.out.size))
            clear hb5
            have HG2 := Lib.hid (getYes (s := ⟨sid, f0, to, q⟩) HK5.out (by simp))
            unfold slotV at HG2
            simp only at HG2
            go_wp2_with fail
            refine (HG2.out).mono ?_
            rintro e w6 ⟨rfl, hb6⟩
            have HK6 := Lib.hid ((HK5.out.below hb6).alloc (.cells #[.int .i64 sid, .int .i64 f0, .int .i64 to, .int .i64 q] 29))
            have z4 := cell_old (.cells #[.int .i64 sid, .int .i64 f0, .int .i64 to, .int .i64 q] 29) (cell_thru hb6 z1)
            have z5 := cell_new w6 #[.int .i64 sid, .int .i64 f0, .int .i64 to, .int .i64 q] 29 1 rfl
            have z6 := cell_new w6 #[.int .i64 sid, .int .i64 f0, .int .i64 to, .int .i64 q] 29 2 rfl
            have HB6 := Lib.hid ((HB5.out.trans (hb6.mono HB5.out.size)).alloc (Nat.le_trans HB5.out.size hb6.size) (.cells #[.int .i64 sid, .int .i64 f0, .int .i64 to, .int .i64 q] 29))
            have HS5 := Lib.hid (stepsAny HK6.out (by have := HI4.out.flen; omega))
            clear hb6
            go_wp2_with fail
            refine (HS5.out).mono ?_
            rintro e w7 ⟨⟨v7, rfl, hv7⟩, hb7⟩
            have HB7 := Lib.hid (HB6.out.trans (hb7.mono HB6.out.size))
            have HA7 := Lib.hid (atAny hv7.is t)
            have z7 := cell_thru hb7 z4
            have z8 := cell_thru hb7 z5
            have z9 := cell_thru hb7 z6
            clear hv7 hb7
            rw [HA1.out] at HA7
            go_wp2_with fail
            refine (HA7.out).mono ?_
            rintro e w8 ⟨rfl, hb8⟩
            have HB8 := Lib.hid (HB7.out.trans (hb8.mono HB7.out.size))
            have za := cell_thru hb8 z7
            have zb := cell_thru hb8 z8
            have zc := cell_thru hb8 z9
            clear hb8
            have hbe : (at1 == at0) = true := by
              have h1 := HN1.out
              have h2 := HNE.out
              simp
              omega
            go_wp2_with fail
            refine (knownYes _).mono ?_
            rintro e w9 ⟨rfl, hb9⟩
            have HB9 := Lib.hid (HB8.out.trans (hb9.mono HB8.out.size))
            clear hb9
            go_wp2_with fail
            go_ret
            exact ⟨rfl, HB9.out⟩
          · have HNE := Lib.hid hn
            have hwq : IntKind.i64.wrap (at0 + q) = at0 + q := small_wrap (by omega) (by omega)
            clear hn
            go_wp2_with fail
            refine (HAT.out).mono ?_
            rintro e w5 ⟨rfl, hb5⟩
            have z1 := cell_thru hb5 y1
            have z2 := cell_thru hb5 y2
            have z3 := cell_thru hb5 y3
            have HK5 := Lib.hid (HKE.out.below hb5)
            have HB5 := Lib.hid (HB4.out.trans (hb5.mono HB4.out.size))
            clear hb5
            have HG2 := Lib.hid (getYes (s := ⟨sid, f0, to, q⟩) HK5.out (by simp))
            unfold slotV at HG2
            simp only at HG2
            go_wp2_with fail
            refine (HG2.out).mono ?_
            rintro e w6 ⟨rfl, hb6⟩
            have HK6 := Lib.hid ((HK5.out.below hb6).alloc (.cells #[.int .i64 sid, .int .i64 f0, .int .i64 to, .int .i64 q] 29))
            have z4 := cell_old (.cells #[.int .i64 sid, .int .i64 f0, .int .i64 to, .int .i64 q] 29) (cell_thru hb6 z1)
            have z5 := cell_new w6 #[.int .i64 sid, .int .i64 f0, .int .i64 to, .int .i64 q] 29 1 rfl
            have z6 := cell_new w6 #[.int .i64 sid, .int .i64 f0, .int .i64 to, .int .i64 q] 29 2 rfl
            have HB6 := Lib.hid ((HB5.out.trans (hb6.mono HB5.out.size)).alloc (Nat.le_trans HB5.out.size hb6.size) (.cells #[.int .i64 sid, .int .i64 f0, .int .i64 to, .int .i64 q] 29))
            have HS5 := Lib.hid (stepsAny HK6.out (by have := HI4.out.flen; omega))
            clear hb6
            go_wp2_with fail
            refine (HS5.out).mono ?_
            rintro e w7 ⟨⟨v7, rfl, hv7⟩, hb7⟩
            have HB7 := Lib.hid (HB6.out.trans (hb7.mono HB6.out.size))
            have HA7 := Lib.hid (atAny hv7.is t)
            have z7 := cell_thru hb7 z4
            have z8 := cell_thru hb7 z5
            have z9 := cell_thru hb7 z6
            clear hv7 hb7
            rw [HA1.out] at HA7
            go_wp2_with fail
            refine (HA7.out).mono ?_
            rintro e w8 ⟨rfl, hb8⟩
            have HB8 := Lib.hid (HB7.out.trans (hb8.mono HB7.out.size))
            have za := cell_thru hb8 z7
            have zb := cell_thru hb8 z8
            have zc := cell_thru hb8 z9
            clear hb8
            have hbe : (at1 == at0) = true := by
              have h1 := HN1.out
              have h2 := HNE.out
              simp
              omega
            go_wp2_with fail
            refine (knownYes _).mono ?_
            rintro e w9 ⟨rfl, hb9⟩
            have HB9 := Lib.hid (HB8.out.trans (hb9.mono HB8.out.size))
            clear hb9
            go_wp2_with fail
            go_ret
            exact ⟨rfl, HB9.out⟩
          · have HNE := Lib.hid hn
            have hwq : IntKind.i64.wrap (at0 + q) = at0 + q := small_wrap (by omega) (by omega)
            clear hn
            go_wp2_with fail
            refine (HAT.out).mono ?_
            rintro e w5 ⟨rfl, hb5⟩
            have z1 := cell_thru hb5 y1
            have z2 := cell_thru hb5 y2
            have z3 := cell_thru hb5 y3
            have HK5 := Lib.hid (HKE.out.below hb5)
            have HB5 := Lib.hid (HB4.out.trans (hb5.mono HB4.out.size))
            clear hb5
            have HG2 := Lib.hid (getYes (s := ⟨sid, f0, to, q⟩) HK5.out (by simp))
            unfold slotV at HG2
            simp only at HG2
            go_wp2_with fail
            refine (HG2.out).mono ?_
            rintro e w6 ⟨rfl, hb6⟩
            have HK6 := Lib.hid ((HK5.out.below hb6).alloc (.cells #[.int .i64 sid, .int .i64 f0, .int .i64 to, .int .i64 q] 29))
            have z4 := cell_old (.cells #[.int .i64 sid, .int .i64 f0, .int .i64 to, .int .i64 q] 29) (cell_thru hb6 z1)
            have z5 := cell_new w6 #[.int .i64 sid, .int .i64 f0, .int .i64 to, .int .i64 q] 29 1 rfl
            have z6 := cell_new w6 #[.int .i64 sid, .int .i64 f0, .int .i64 to, .int .i64 q] 29 2 rfl
            have HB6 := Lib.hid ((HB5.out.trans (hb6.mono HB5.out.size)).alloc (Nat.le_trans HB5.out.size hb6.size) (.cells #[.int .i64 sid, .int .i64 f0, .int .i64 to, .int .i64 q] 29))
            have HS5 := Lib.hid (stepsAny HK6.out (by have := HI4.out.flen; omega))
            clear hb6
            go_wp2_with fail
            refine (HS5.out).mono ?_
            rintro e w7 ⟨⟨v7, rfl, hv7⟩, hb7⟩
            have HB7 := Lib.hid (HB6.out.trans (hb7.mono HB6.out.size))
            have HA7 := Lib.hid (atAny hv7.is t)
            have z7 := cell_thru hb7 z4
            have z8 := cell_thru hb7 z5
            have z9 := cell_thru hb7 z6
            clear hv7 hb7
            rw [HA1.out] at HA7
            go_wp2_with fail
            refine (HA7.out).mono ?_
            rintro e w8 ⟨rfl, hb8⟩
            have HB8 := Lib.hid (HB7.out.trans (hb8.mono HB7.out.size))
            have za := cell_thru hb8 z7
            have zb := cell_thru hb8 z8
            have zc := cell_thru hb8 z9
            clear hb8
            have hbe : (at1 == at0) = true := by
              have h1 := HN1.out
              have h2 := HNE.out
              simp
              omega
            go_wp2_with fail
            refine (knownYes _).mono ?_
            rintro e w9 ⟨rfl, hb9⟩
            have HB9 := Lib.hid (HB8.out.trans (hb9.mono HB8.out.size))
            clear hb9
            go_wp2_with fail
            go_ret
            exact ⟨rfl, HB9.out⟩
          · have HNE := Lib.hid hn
            have hwq : IntKind.i64.wrap (at0 + q) = at0 + q := small_wrap (by omega) (by omega)
            clear hn
            go_wp2_with fail
            refine (HAT.out).mono ?_
            rintro e w5 ⟨rfl, hb5⟩
            have z1 := cell_thru hb5 y1
            have z2 := cell_thru hb5 y2
            have z3 := cell_thru hb5 y3
            have HK5 := Lib.hid (HKE.out.below hb5)
            have HB5 := Lib.hid (HB4.out.trans (hb5.mono HB4.out.size))
            clear hb5
            have HG2 := Lib.hid (getYes (s := ⟨sid, f0, to, q⟩) HK5.out (by simp))
            unfold slotV at HG2
            simp only at HG2
            go_wp2_with fail
            refine (HG2.out).mono ?_
            rintro e w6 ⟨rfl, hb6⟩
            have HK6 := Lib.hid ((HK5.out.below hb6).alloc (.cells #[.int .i64 sid, .int .i64 f0, .int .i64 to, .int .i64 q] 29))
            have z4 := cell_old (.cells #[.int .i64 sid, .int .i64 f0, .int .i64 to, .int .i64 q] 29) (cell_thru hb6 z1)
            have z5 := cell_new w6 #[.int .i64 sid, .int .i64 f0, .int .i64 to, .int .i64 q] 29 1 rfl
            have z6 := cell_new w6 #[.int .i64 sid, .int .i64 f0, .int .i64 to, .int .i64 q] 29 2 rfl
            have HB6 := Lib.hid ((HB5.out.trans (hb6.mono HB5.out.size)).alloc (Nat.le_trans HB5.out.size hb6.size) (.cells #[.int .i64 sid, .int .i64 f0, .int .i64 to, .int .i64 q] 29))
            have HS5 := Lib.hid (stepsAny HK6.out (by have := HI4.out.flen; omega))
            clear hb6
            go_wp2_with fail
            refine (HS5.out).mono ?_
            rintro e w7 ⟨⟨v7, rfl, hv7⟩, hb7⟩
            have HB7 := Lib.hid (HB6.out.trans (hb7.mono HB6.out.size))
            have HA7 := Lib.hid (atAny hv7.is t)
            have z7 := cell_thru hb7 z4
            have z8 := cell_thru hb7 z5
            have z9 := cell_thru hb7 z6
            clear hv7 hb7
            rw [HA1.out] at HA7
            go_wp2_with fail
            refine (HA7.out).mono ?_
            rintro e w8 ⟨rfl, hb8⟩
            have HB8 := Lib.hid (HB7.out.trans (hb8.mono HB7.out.size))
            have za := cell_thru hb8 z7
            have zb := cell_thru hb8 z8
            have zc := cell_thru hb8 z9
            clear hb8
            have hbe : (at1 == at0 + q) = true := by
              have h1 := HN1.out
              have h2 := HNE.out
              simp
              omega
            go_wp2_with fail
            refine (knownYes _).mono ?_
            rintro e w9 ⟨rfl, hb9⟩
            have HB9 := Lib.hid (HB8.out.trans (hb9.mono HB8.out.size))
            clear hb9
            go_wp2_with fail
            go_ret
            exact ⟨rfl, HB9.out⟩
      · have HG := Lib.hid (getNo HK.out hns)
        have HNS := Lib.hid hns
        clear hns
        unfold slotV at HG
        simp only at HG
        go_wp2_with fail
        refine (HG.out).mono ?_
        rintro e w2 ⟨rfl, hb2⟩
        have HK2 := Lib.hid ((HK.out.below hb2).alloc (.cells #[.int .i64 0, .int .i64 0, .int .i64 0, .int .i64 0] 29))
        have HB2 := Lib.hid ((HB.out.trans (hb2.mono HB.out.size)).alloc (Nat.le_trans HB.out.size hb2.size) (.cells #[.int .i64 0, .int .i64 0, .int .i64 0, .int .i64 0] 29))
        have HS := Lib.hid (stepsAny HK2.out (by have := HI.out.flen; omega))
        clear hb2
        go_wp2_with fail
        refine (HS.out).mono ?_
        rintro e w3 ⟨⟨v3, rfl, hv3⟩, hb3⟩
        have HK3 := Lib.hid (HK2.out.below hb3)
        have HB3 := Lib.hid (HB2.out.trans (hb3.mono HB2.out.size))
        have HCU := Lib.hid (cutAll HK3.out HI.out ⟨3, ⟨id, 0, to, 0⟩⟩ rfl)
        have hap : Apart bk v3 := Apart.own hv3 HK2.out.lt
        have HAP := Lib.hid hap
        have HV3a := Lib.hid hv3.is
        simp only at HCU
        clear hv3 hb3 hap
        go_wp2_with fail
        refine (HCU.out).mono ?_
        rintro e w4 ⟨err, up2, fr2, L2, rfl, hd, hk4, hK4⟩
        have HV3 := Lib.hid (show IsSteps w4 v3 fr from IsRow.kept (by decide) HV3a.out hK4 HAP.out HK3.out.map)
        have HB4 := Lib.hid (HB3.out.trans (hK4.below h1 h2 HB3.out.size))
        obtain ⟨_, _, h3 | ⟨x, hx, hxid, _⟩⟩ := hd.cut_inv rfl
        rotate_left
        · exact absurd hxid (HNS.out x hx)
        obtain ⟨rfl, rfl, _, rfl⟩ := h3
        have HS2 := Lib.hid (stepsAny hk4 (by have := HI.out.flen; omega))
        clear hd hk4 hK4
        go_wp2_with fail
        refine (HS2.out).mono ?_
        rintro e w5 ⟨⟨v5, rfl, hv5⟩, hb5⟩
        have HSA := Lib.hid (sameStepsT hv5.is (HV3.out.below hb5) rfl)
        have HB5 := Lib.hid (HB4.out.trans (hb5.mono HB4.out.size))
        clear hv5 hb5
        go_wp2_with fail
        refine (HSA.out).mono ?_
        rintro e w6 ⟨rfl, hb6⟩
        have HB6 := Lib.hid (HB5.out.trans (hb6.mono HB5.out.size))
        clear hb6
        go_wp2_with fail
        refine (knownYes _).mono ?_
        rintro e w7 ⟨rfl, hb7⟩
        have HB7 := Lib.hid (HB6.out.trans (hb7.mono HB6.out.size))
        clear hb7
        go_wp2_with fail
        go_ret
        exact ⟨rfl, HB7.out⟩

end Go.Proofs.Ytjknmnmilladlaa
