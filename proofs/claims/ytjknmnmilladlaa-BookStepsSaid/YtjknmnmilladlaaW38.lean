/-
  Walk: the law BookBack. (Printed by gen38.py.)
-/
import Derived.Test.YtjknmnmilladlaaW37
import Derived.Test.YtjknmnmilladlaaP18
namespace Go.Proofs.Ytjknmnmilladlaa
open Go.RowKit

/-- Same at two profiles that are the same one. -/
theorem sameStepsT {w : World} {v1 v2 : Value} {l m : List Step} (h1 : IsSteps w v1 l) (h2 : IsSteps w v2 m) (he : l = m) :
    Calls Try.prog 16 #[v1, v2] w fun e w' => e = .returned (.bool true) ∧ Below w.heap.size w w' := (sameSteps h1 h2).mono fun _ _ ⟨a, b⟩ => ⟨by rw [a]; simp [he], b⟩

set_option maxHeartbeats 8000000 in
set_option maxRecDepth 100000 in
theorem backKnown (g tc : Int) (s : Slot) {w : World} {v : Value} {l : List Do} (h : IsDos w v l) (hc : 40 < l.length) : Calls Try.prog 8 #[.int .u8 g, v, slotV s, .int .i64 tc] w (Yes w) := by
  obtain ⟨ao, cap, rfl, p1, p2⟩ := h.shape
  obtain ⟨N, hN⟩ : ∃ N, N = l.length := ⟨_, rfl⟩
  rw [← hN] at hc p1 ⊢
  clear h hN
  have d1 : decide ((40 : Int) < N) = true := by simp; omega
  obtain ⟨id, f0, t0, q⟩ := s
  unfold slotV
  simp only
  go_enter Try.func8, Try.ntmps8
  go_wp2_with fail
  refine (knownYes _).mono ?_
  rintro e w1 ⟨rfl, hb1⟩
  have HB := Lib.hid (((Below.refl w.heap.size w).alloc (Nat.le_refl _) (.cells #[.int .i64 id, .int .i64 f0, .int .i64 t0, .int .i64 q] 29)).trans (hb1.mono (by simp)))
  clear hb1
  go_wp2_with fail
  go_ret
  exact ⟨rfl, HB.out⟩

set_option maxHeartbeats 16000000 in
set_option maxRecDepth 100000 in
theorem backMain (g tc id f0 t0 q : Int) {w : World} {v : Value} {l : List Do} (h : IsDos w v l) (hdb : ∀ d ∈ l, d.s.id ≤ 9223372036854775807) (g1 : 0 ≤ g) (g2 : g ≤ 255) (hl : l.length ≤ 40) (hidb : id ≤ 9223372036854775807) : Calls Try.prog 8 #[.int .u8 g, v, .agg #[.int .i64 id, .int .i64 f0, .int .i64 t0, .int .i64 q], .int .i64 tc] w (Yes w) := by
  obtain ⟨w0, hw0⟩ : ∃ w0, w0 = w.alloc (.cells #[.int .i64 id, .int .i64 f0, .int .i64 t0, .int .i64 q] 29) := ⟨_, rfl⟩
  have X0 := Lib.hid (show w0.cell? ⟨w.heap.size, 0, none⟩ = some (.int .i64 id) by rw [hw0]; exact cell_new w _ 29 0 rfl)
  have X1 := Lib.hid (show w0.cell? ⟨w.heap.size, 1, none⟩ = some (.int .i64 f0) by rw [hw0]; exact cell_new w _ 29 1 rfl)
  have X2 := Lib.hid (show w0.cell? ⟨w.heap.size, 2, none⟩ = some (.int .i64 t0) by rw [hw0]; exact cell_new w _ 29 2 rfl)
  have X3 := Lib.hid (show w0.cell? ⟨w.heap.size, 3, none⟩ = some (.int .i64 q) by rw [hw0]; exact cell_new w _ 29 3 rfl)
  have hX : w.heap.size < w0.heap.size := by rw [hw0]; simp
  have HBW := Lib.hid (show Below w.heap.size w w0 by rw [hw0]; exact (Below.refl _ _).alloc (Nat.le_refl _) _)
  have HN := Lib.hid (newYes (1 + g) w0 (by omega) (by omega))
  have HI0 := Lib.hid (Inv.new (n := 1 + g) (by omega) (by omega))
  obtain ⟨N, hN⟩ : ∃ N, N = l.length := ⟨_, rfl⟩
  have hC : ∀ i, i < N → ∃ b o cap, v = .slice (some ⟨b, o, none⟩) N cap ∧ b < w0.heap.size ∧ N ≤ cap ∧ cap ≤ 9223372036854775807 ∧ (∀ j u, (doCells (l.getD i default))[j]? = some u → w0.cell? ⟨b, o + i * 5 + j, none⟩ = some u) ∧ (l.getD i default).s.id ≤ 9223372036854775807 := by
    intro i hi
    obtain ⟨b, o, cap, h0, h1, h2, h3, h4⟩ := doAtV (h.below HBW.out) (by omega)
    refine ⟨b, o, cap, by rw [hN]; exact h0, h3, by omega, h2, h4 i (by omega), hdb _ ?_⟩
    rw [List.getD_eq_getElem?_getD, List.getElem?_eq_getElem (by omega)]
    exact List.getElem_mem _
  obtain ⟨ao, cap, rfl, p1, p2⟩ := h.shape
  rw [← hN] at hl p1 hC ⊢
  have HC := Lib.hid hC
  have d1 : decide ((40 : Int) < N) = false := by simp; omega
  have hw1 : IntKind.i64.wrap (1 + g) = 1 + g := small_wrap (by omega) (by omega)
  have HW0 := Lib.hid hw0
  clear h hN hC hdb hw0
  go_enter Try.func8, Try.ntmps8
  go_wp2_with fail
  rw [← HW0.out]
  refine (HN.out).mono ?_
  rintro e w1 ⟨⟨bk, bm, rfl, hk, h1, h2⟩, hb1⟩
  have HK := Lib.hid hk
  have HB := Lib.hid hb1
  clear hk hb1
  go_wp2_with fail
  go_loopw [11] (fun i wr => ∃ (k : Nat) (up fr : List Step) (L : List Slot), k ≤ N ∧ i = .int .i64 k ∧ Below w0.heap.size w0 wr ∧ BookIs wr bk bm (1 + g) up fr L ∧ Inv (1 + g) up fr L ∧ ∀ x ∈ L, x.id ≤ 9223372036854775807) (fun i _ => N - (intOf i).toNat)
  case atStart => exact ⟨0, _, _, _, by omega, rfl, HB.out, HK.out, HI0.out, by simp⟩
  case round =>
    obtain ⟨k, up, fr, L, hk, rfl, hb, hbk, hI, hM⟩ := hrel
    clear HK HB HI0
    have HB := Lib.hid hb
    have HK := Lib.hid hbk
    have HI := Lib.hid hI
    have HM := Lib.hid hM
    by_cases hkN : k < N
    · obtain ⟨b, o, cap2, e0, hbw, hNc, hcap, hcell, hdi⟩ := HC.out k hkN
      cases e0
      obtain ⟨d, hd⟩ : ∃ d, d = l.getD k default := ⟨_, rfl⟩
      rw [← hd] at hcell hdi
      have hkk : (k : Int) < N := by omega
      have hcc : ∀ j u, (doCells d)[j]? = some u → wr.cell? ⟨b, o + k * 5 + j, none⟩ = some u := fun j u hu => (hb.cell (p := ⟨b, o + k * 5 + j, none⟩) hbw).trans (hcell j u hu)
      have q0 : wr.cell? ⟨b, o + k * 5, none⟩ = some (.int .i64 d.kind) := hcc 0 _ rfl
      have q1 := hcc 1 _ rfl
      have q2 := hcc 2 _ rfl
      have q3 := hcc 3 _ rfl
      have q4 := hcc 4 _ rfl
      have HD := Lib.hid (doneAny hbk hI d)
      unfold doV at HD
      have HDI := Lib.hid hdi
      clear hcell hcc hb hbk hI hd hM hdi
      go_wp2_with fail
      refine (HD.out).mono ?_
      rintro e w2 ⟨u, ids, err, up2, fr2, L2, rfl, hv2, hd2, hk2, hK2⟩
      have hb2 := HB.out.trans (hK2.below h1 h2 HB.out.size)
      have hI2 := hd2.inv HI.out
      have HB2 := Lib.hid hb2
      have HK2 := Lib.hid hk2
      have HI2 := Lib.hid hI2
      have HM2 := Lib.hid (hd2.ids_le HM.out HDI.out)
      clear hv2 hd2 hk2 hK2 hb2 hI2
      go_wp2_with fail
      go_roundw
      case rel => exact ⟨k + 1, up2, fr2, L2, by omega, by go_num, HB2.out, HK2.out, HI2.out, HM2.out⟩
      case measure => simp [intOf]; omega
    · obtain rfl : k = N := by omega
      have hd9 : decide ((k : Int) < k) = false := by simp
      have HST := Lib.hid (stepsAny hbk (by have := hI.flen; omega))
      have hltk := hbk.lt
      clear hb hbk hI hM
      go_wp2_with fail
      refine (HST.out).mono ?_
      rintro e w2 ⟨⟨v2, rfl, hv2⟩, hb2⟩
      have HB2 := Lib.hid (HB.out.trans (hb2.mono HB.out.size))
      have HK2 := Lib.hid (HK.out.below hb2)
      have hap2 : Apart bk v2 := Apart.own hv2 hltk
      have HA2 := Lib.hid hap2
      have HV2 := Lib.hid hv2.is
      have HSL := Lib.hid (slotsAny HK2.out (fun s hs => ⟨(right_iff.1 (HI.out.rt s hs)).1, HM.out s hs⟩) HI.out.len)
      have hltk2 := HK2.out.lt
      obtain ⟨a2, c2, rfl, _, _⟩ := hv2.is.shape
      clear hv2 hb2 hap2
      go_wp2_with fail
      refine (HSL.out).mono ?_
      rintro e w3 ⟨v3, S, rfl, hso, hv3, hb3⟩
      have HB3 := Lib.hid (HB2.out.trans (hb3.mono HB2.out.size))
      have HK3 := Lib.hid (HK2.out.below hb3)
      have hap3 : Apart bk v3 := Apart.own hv3 hltk2
      have HA3 := Lib.hid hap3
      have HW3 := Lib.hid hv3.is
      have HV3 := Lib.hid (HV2.out.below hb3)
      have HSO := Lib.hid hso
      have HT := Lib.hid (takeAll HK3.out HI.out ⟨1, ⟨id, f0, t0, q⟩⟩ rfl)
      unfold slotV at HT
      simp only at HT
      obtain ⟨a3, c3, rfl, _, _⟩ := hv3.is.shape
      have x3a := HB3.out.cell (p := ⟨w.heap.size, 0, none⟩) hX |>.trans X0.out
      have x3b := HB3.out.cell (p := ⟨w.heap.size, 1, none⟩) hX |>.trans X1.out
      have x3c := HB3.out.cell (p := ⟨w.heap.size, 2, none⟩) hX |>.trans X2.out
      have x3d := HB3.out.cell (p := ⟨w.heap.size, 3, none⟩) hX |>.trans X3.out
      clear hv3 hb3 hap3 hso
      go_wp2_with fail
      refine (HT.out).mono ?_
      rintro e w4 ⟨err, up4, fr4, L4, rfl, hd4, hk4, hK4⟩
      have HB4 := Lib.hid (HB3.out.trans (hK4.below h1 h2 HB3.out.size))
      have HV4 := Lib.hid (HV3.out.keptB hK4 HA2.out HK3.out.map)
      have HW4 := Lib.hid (HW3.out.keptB hK4 HA3.out HK3.out.map)
      have HK4 := Lib.hid hk4
      have HI4 := Lib.hid (hd4.inv HI.out)
      have HM4 := Lib.hid (hd4.ids_le HM.out (by exact hidb))
      have HD4 := Lib.hid hd4
      clear x3a
      clear x3b
      clear x3c
      clear x3d
      clear hd4 hk4 hK4
      obtain ⟨_, hup4, h6 | ⟨he4, hr4, hn4, hz1, hz2, hz3, hL4⟩⟩ := HD4.out.take_inv rfl
      · obtain ⟨rfl, rfl, h6⟩ := h6
        have herr : (err != 0) = true := by
          have : err ≠ 0 := by rcases h6 with ⟨_, h⟩ | ⟨_, _, h⟩ | ⟨_, _, _, h⟩ | ⟨_, _, _, _, h⟩ <;> omega
          simpa using this
        subst hup4
        have HST5 := Lib.hid (stepsAny HK4.out (by have := HI.out.flen; omega))
        clear h6
        go_wp2_with fail
        refine (HST5.out).mono ?_
        rintro e w5 ⟨⟨v5, rfl, hv5⟩, hb5⟩
        have HB5 := Lib.hid (HB4.out.trans (hb5.mono HB4.out.size))
        have HSA := Lib.hid (sameStepsT hv5.is (HV4.out.below hb5) rfl)
        have HW5 := Lib.hid (HW4.out.below hb5)
        have HK5 := Lib.hid (HK4.out.below hb5)
        clear hv5 hb5
        go_wp2_with fail
        refine (HSA.out).mono ?_
        rintro e w6 ⟨rfl, hb6⟩
        have HB6 := Lib.hid (HB5.out.trans (hb6.mono HB5.out.size))
        have HSL6 := Lib.hid (slotsAny (HK5.out.below hb6) (fun s hs => ⟨(right_iff.1 (HI.out.rt s hs)).1, HM.out s hs⟩) HI.out.len)
        have HW6 := Lib.hid (HW5.out.below hb6)
        clear hb6
        go_wp2_with fail
        refine (HSL6.out).mono ?_
        rintro e w7 ⟨v7, S7, rfl, hso7, hv7, hb7⟩
        have HB7 := Lib.hid (HB6.out.trans (hb7.mono HB6.out.size))
        have HSB := Lib.hid (sameSlotsT hv7.is (HW6.out.below hb7) (SortedOf.unique hso7 HSO.out HI.out.ids))
        clear hso7 hv7 hb7
        go_wp2_with fail
        refine (HSB.out).mono ?_
        rintro e w8 ⟨rfl, hb8⟩
        have HB8 := Lib.hid (HB7.out.trans (hb8.mono HB7.out.size))
        clear hb8
        go_wp2_with fail
        refine (knownYes _).mono ?_
        rintro e w9 ⟨rfl, hb9⟩
        have HB9 := Lib.hid (HB8.out.trans (hb9.mono HB8.out.size))
        clear hb9
        go_wp2_with fail
        go_ret
        exact ⟨rfl, HBW.out.trans (HB9.out.mono HBW.out.size)⟩
      · subst hup4
        subst he4
        subst hL4
        have HN4 := Lib.hid hn4
        have HST5 := Lib.hid (stepsAny HK4.out (by have := HI4.out.flen; omega))
        clear hn4 hr4 hz1 hz2 hz3
        go_wp2_with fail
        refine (HST5.out).mono ?_
        rintro e w5 ⟨⟨v5, rfl, hv5⟩, hb5⟩
        have HB5 := Lib.hid (HB4.out.trans (hb5.mono HB4.out.size))
        have hap5 : Apart bk v5 := Apart.own hv5 HK4.out.lt
        have HA5 := Lib.hid hap5
        have HU5 := Lib.hid hv5.is
        have HV5 := Lib.hid (HV4.out.below hb5)
        have HW5 := Lib.hid (HW4.out.below hb5)
        have HK5 := Lib.hid (HK4.out.below hb5)
        have HMV := Lib.hid (moveAll HK5.out HI4.out ⟨0, ⟨id, f0, 0, 0⟩⟩ (by simp) (by simp) (by simp) (by simp))
        simp only at HMV
        obtain ⟨a5, c5, rfl, _, _⟩ := hv5.is.shape
        have x5a := HB5.out.cell (p := ⟨w.heap.size, 0, none⟩) hX |>.trans X0.out
        have x5b := HB5.out.cell (p := ⟨w.heap.size, 1, none⟩) hX |>.trans X1.out
        have x5c := HB5.out.cell (p := ⟨w.heap.size, 2, none⟩) hX |>.trans X2.out
        have x5d := HB5.out.cell (p := ⟨w.heap.size, 3, none⟩) hX |>.trans X3.out
        clear hv5 hb5 hap5
        go_wp2_with fail
        refine (HMV.out).mono ?_
        rintro e w6 ⟨err, up6, fr6, L6, rfl, hd6, hk6, hK6⟩
        obtain ⟨rfl, rfl, rfl, rfl⟩ := back_move HN4.out HI4.out (by simp) (by simp) (by simp) (by simp) rfl rfl hd6
        have HB6 := Lib.hid (HB5.out.trans (hK6.below h1 h2 HB5.out.size))
        have HU6 := Lib.hid (HU5.out.keptB hK6 HA5.out HK5.out.map)
        have HV6 := Lib.hid (HV5.out.keptB hK6 HA2.out HK5.out.map)
        have HW6 := Lib.hid (HW5.out.keptB hK6 HA3.out HK5.out.map)
        have HK6 := Lib.hid hk6
        have HST7 := Lib.hid (stepsAny hk6 (by have := HI4.out.flen; omega))
        clear x5a
        clear x5b
        clear x5c
        clear x5d
        clear hd6 hk6 hK6
        go_wp2_with fail
        refine (HST7.out).mono ?_
        rintro e w7 ⟨⟨v7, rfl, hv7⟩, hb7⟩
        have HB7 := Lib.hid (HB6.out.trans (hb7.mono HB6.out.size))
        have HSA := Lib.hid (sameStepsT hv7.is (HU6.out.below hb7) rfl)
        have HU7 := Lib.hid (HU6.out.below hb7)
        have HV7 := Lib.hid (HV6.out.below hb7)
        have HW7 := Lib.hid (HW6.out.below hb7)
        have HK7 := Lib.hid (HK6.out.below hb7)
        clear hv7 hb7
        go_wp2_with fail
        refine (HSA.out).mono ?_
        rintro e w8 ⟨rfl, hb8⟩
        have HB8 := Lib.hid (HB7.out.trans (hb8.mono HB7.out.size))
        have HU8 := Lib.hid (HU7.out.below hb8)
        have HV8 := Lib.hid (HV7.out.below hb8)
        have HW8 := Lib.hid (HW7.out.below hb8)
        have HK8 := Lib.hid (HK7.out.below hb8)
        have HCU := Lib.hid (cutAll HK8.out HI4.out ⟨3, ⟨id, 0, tc, 0⟩⟩ rfl)
        simp only at HCU
        have x8a := HB8.out.cell (p := ⟨w.heap.size, 0, none⟩) hX |>.trans X0.out
        have x8b := HB8.out.cell (p := ⟨w.heap.size, 1, none⟩) hX |>.trans X1.out
        have x8c := HB8.out.cell (p := ⟨w.heap.size, 2, none⟩) hX |>.trans X2.out
        have x8d := HB8.out.cell (p := ⟨w.heap.size, 3, none⟩) hX |>.trans X3.out
        clear hb8
        go_wp2_with fail
        refine (HCU.out).mono ?_
        rintro e w9 ⟨err, up9, fr9, L9, rfl, hd9, hk9, hK9⟩
        have HB9 := Lib.hid (HB8.out.trans (hK9.below h1 h2 HB8.out.size))
        have HU9 := Lib.hid (HU8.out.keptB hK9 HA5.out HK8.out.map)
        have HV9 := Lib.hid (HV8.out.keptB hK9 HA2.out HK8.out.map)
        have HW9 := Lib.hid (HW8.out.keptB hK9 HA3.out HK8.out.map)
        have HK9 := Lib.hid hk9
        have HI9 := Lib.hid (hd9.inv HI4.out)
        have HD9 := Lib.hid (back_cut HN4.out HI4.out rfl rfl hd9)
        clear x8a
        clear x8b
        clear x8c
        clear x8d
        clear hd9 hk9 hK9
        obtain ⟨rfl, hc⟩ := HD9.out
        rcases hc with ⟨rfl, rfl, rfl⟩ | ⟨rfl, rfl⟩ | ⟨rfl, xs, hxid, rfl⟩
        · have HST10 := Lib.hid (stepsAny HK9.out (by have := HI4.out.flen; omega))
          go_wp2_with fail
          refine (HST10.out).mono ?_
          rintro e w10 ⟨⟨v10, rfl, hv10⟩, hb10⟩
          have HB10 := Lib.hid (HB9.out.trans (hb10.mono HB9.out.size))
          have HSA10 := Lib.hid (sameStepsT hv10.is (HU9.out.below hb10) rfl)
          have HV10 := Lib.hid (HV9.out.below hb10)
          have HW10 := Lib.hid (HW9.out.below hb10)
          have HK10 := Lib.hid (HK9.out.below hb10)
          clear hv10 hb10
          go_wp2_with fail
          refine (HSA10.out).mono ?_
          rintro e w11 ⟨rfl, hb11⟩
          have HB11 := Lib.hid (HB10.out.trans (hb11.mono HB10.out.size))
          have HV11 := Lib.hid (HV10.out.below hb11)
          have HW11 := Lib.hid (HW10.out.below hb11)
          have HK11 := Lib.hid (HK10.out.below hb11)
          clear hb11
          have HG := Lib.hid (getYes (s := ⟨id, f0, t0, q⟩) HK11.out (by simp))
          unfold slotV at HG
          simp only at HG
          have x11a := HB11.out.cell (p := ⟨w.heap.size, 0, none⟩) hX |>.trans X0.out
          have x11b := HB11.out.cell (p := ⟨w.heap.size, 1, none⟩) hX |>.trans X1.out
          have x11c := HB11.out.cell (p := ⟨w.heap.size, 2, none⟩) hX |>.trans X2.out
          have x11d := HB11.out.cell (p := ⟨w.heap.size, 3, none⟩) hX |>.trans X3.out
          go_wp2_with fail
          refine (HG.out).mono ?_
          rintro e w12 ⟨rfl, hb12⟩
          have HB12z := Lib.hid (HB11.out.trans (hb12.mono HB11.out.size))
          have HB12 := Lib.hid (HB12z.out.alloc HB12z.out.size (.cells #[.int .i64 id, .int .i64 f0, .int .i64 t0, .int .i64 q] 29))
          have hba : Below w11.heap.size w11 (w12.alloc (.cells #[.int .i64 id, .int .i64 f0, .int .i64 t0, .int .i64 q] 29)) := hb12.alloc hb12.size _
          have HV12 := Lib.hid (HV11.out.below hba)
          have HW12 := Lib.hid (HW11.out.below hba)
          have HK12 := Lib.hid (HK11.out.below hba)
          clear x11a
          clear x11b
          clear x11c
          clear x11d
          clear hb12 hba
          have x12a := HB12.out.cell (p := ⟨w.heap.size, 0, none⟩) hX |>.trans X0.out
          have x12b := HB12.out.cell (p := ⟨w.heap.size, 1, none⟩) hX |>.trans X1.out
          have x12c := HB12.out.cell (p := ⟨w.heap.size, 2, none⟩) hX |>.trans X2.out
          have x12d := HB12.out.cell (p := ⟨w.heap.size, 3, none⟩) hX |>.trans X3.out
          have hltc := HK12.out.lt
          have hvi : IsInts ((w12.alloc (.cells #[.int .i64 id, .int .i64 f0, .int .i64 t0, .int .i64 q] 29)).alloc (.cells #[.int .i64 id] 3)) (.slice (some ⟨w12.heap.size + 1, 0, none⟩) 1 1) [id] := by
            have hs : (w12.alloc (.cells #[.int .i64 id, .int .i64 f0, .int .i64 t0, .int .i64 q] 29)).heap.size = w12.heap.size + 1 := by simp
            rw [← hs]
            exact (show OwnInts _ (w12.alloc (.cells #[.int .i64 id, .int .i64 f0, .int .i64 t0, .int .i64 q] 29)).heap.size _ [id] from World.ownsRow_lit (e := 3) (size := 1) (w12.alloc (.cells #[.int .i64 id, .int .i64 f0, .int .i64 t0, .int .i64 q] 29)) #[.int .i64 id] 1 (Nat.le_refl _) (by unfold maxLen; omega) rfl).is
          have hap : Apart bk (.slice (some ⟨w12.heap.size + 1, 0, none⟩) 1 1) := by
            intro a n' c' hv _ he
            cases hv
            have he2 : w12.heap.size + 1 = bk := he
            simp at hltc
            omega
          have HFR := Lib.hid (freeOne (d := ⟨2, ⟨id, 0, 0, 0⟩⟩) (HK12.out.alloc (.cells #[.int .i64 id] 3)) rfl hvi hap)
          clear hvi hap hltc
          go_wp2_with fail
          refine (HFR.out).mono ?_
          rintro e w13 ⟨err, up13, fr13, L13, rfl, hd13, hk13, hK13⟩
          obtain ⟨rfl, rfl, rfl, rfl⟩ := back_free (s := ⟨id, f0, t0, q⟩) HN4.out HI.out HI9.out rfl rfl hd13
          have HB12a := Lib.hid (HB12.out.alloc HB12.out.size (.cells #[.int .i64 id] 3))
          have hka : IsSteps ((w12.alloc (.cells #[.int .i64 id, .int .i64 f0, .int .i64 t0, .int .i64 q] 29)).alloc (.cells #[.int .i64 id] 3)) _ _ := HV12.out.below ((Below.refl _ _).alloc (Nat.le_refl _) _)
          have hkb : IsSlots ((w12.alloc (.cells #[.int .i64 id, .int .i64 f0, .int .i64 t0, .int .i64 q] 29)).alloc (.cells #[.int .i64 id] 3)) _ _ := HW12.out.below ((Below.refl _ _).alloc (Nat.le_refl _) _)
          have hmp := (HK12.out.alloc (.cells #[.int .i64 id] 3)).map
          have HB13 := Lib.hid (HB12a.out.trans (hK13.below h1 h2 HB12a.out.size))
          have HV13 := Lib.hid (hka.keptB hK13 HA2.out hmp)
          have HW13 := Lib.hid (hkb.keptB hK13 HA3.out hmp)
          have HK13 := Lib.hid hk13
          clear x12a
          clear x12b
          clear x12c
          clear x12d
          clear hd13 hk13 hK13 hka hkb hmp
          have HSTf := Lib.hid (stepsAny HK13.out (by have := HI.out.flen; omega))
          go_wp2_with fail
          refine (HSTf.out).mono ?_
          rintro e w14 ⟨⟨v14, rfl, hv14⟩, hb14⟩
          have HB14 := Lib.hid (HB13.out.trans (hb14.mono HB13.out.size))
          have HSF := Lib.hid (sameStepsT hv14.is (HV13.out.below hb14) rfl)
          have HW14 := Lib.hid (HW13.out.below hb14)
          have HK14 := Lib.hid (HK13.out.below hb14)
          clear hv14 hb14
          go_wp2_with fail
          refine (HSF.out).mono ?_
          rintro e w15 ⟨rfl, hb15⟩
          have HB15 := Lib.hid (HB14.out.trans (hb15.mono HB14.out.size))
          have HW15 := Lib.hid (HW14.out.below hb15)
          have HK15 := Lib.hid (HK14.out.below hb15)
          have HSG := Lib.hid (slotsAny HK15.out (fun s hs => ⟨(right_iff.1 (HI.out.rt s hs)).1, HM.out s hs⟩) HI.out.len)
          clear hb15
          go_wp2_with fail
          refine (HSG.out).mono ?_
          rintro e w16 ⟨v16, S16, rfl, hso16, hv16, hb16⟩
          have HB16 := Lib.hid (HB15.out.trans (hb16.mono HB15.out.size))
          have HSH := Lib.hid (sameSlotsT hv16.is (HW15.out.below hb16) (SortedOf.unique hso16 HSO.out HI.out.ids))
          have HK16 := Lib.hid (HK15.out.below hb16)
          clear hso16 hv16 hb16
          go_wp2_with fail
          refine (HSH.out).mono ?_
          rintro e w17 ⟨rfl, hb17⟩
          have HB17 := Lib.hid (HB16.out.trans (hb17.mono HB16.out.size))
          have HK17 := Lib.hid (HK16.out.below hb17)
          clear hb17
          have x17a := HB17.out.cell (p := ⟨w.heap.size, 0, none⟩) hX |>.trans X0.out
          have x17b := HB17.out.cell (p := ⟨w.heap.size, 1, none⟩) hX |>.trans X1.out
          have x17c := HB17.out.cell (p := ⟨w.heap.size, 2, none⟩) hX |>.trans X2.out
          have x17d := HB17.out.cell (p := ⟨w.heap.size, 3, none⟩) hX |>.trans X3.out
          have hltc := HK17.out.lt
          have hvi : IsInts (w17.alloc (.cells #[.int .i64 id] 3)) (.slice (some ⟨w17.heap.size, 0, none⟩) 1 1) [id] := by
            exact (show OwnInts _ w17.heap.size _ [id] from World.ownsRow_lit (e := 3) (size := 1) w17 #[.int .i64 id] 1 (Nat.le_refl _) (by unfold maxLen; omega) rfl).is
          have hap : Apart bk (.slice (some ⟨w17.heap.size, 0, none⟩) 1 1) := by
            intro a n' c' hv _ he
            cases hv
            have he2 : w17.heap.size = bk := he
            omega
          have HFR := Lib.hid (freeOne (d := ⟨2, ⟨id, 0, 0, 0⟩⟩) (HK17.out.alloc (.cells #[.int .i64 id] 3)) rfl hvi hap)
          clear hvi hap hltc
          go_wp2_with fail
          refine (HFR.out).mono ?_
          rintro e w18 ⟨err, up18, fr18, L18, rfl, hd18, hk18, hK18⟩
          obtain ⟨rfl, rfl, rfl, rfl⟩ := back_none HN4.out rfl hd18
          have HB17a := Lib.hid (HB17.out.alloc HB17.out.size (.cells #[.int .i64 id] 3))
          have HB18 := Lib.hid (HB17a.out.trans (hK18.below h1 h2 HB17a.out.size))
          clear x17a
          clear x17b
          clear x17c
          clear x17d
          clear hd18 hk18 hK18
          go_wp2_with fail
          refine (knownYes _).mono ?_
          rintro e w19 ⟨rfl, hb19⟩
          have HB19 := Lib.hid (HB18.out.trans (hb19.mono HB18.out.size))
          clear hb19
          go_wp2_with fail
          go_ret
          exact ⟨rfl, HBW.out.trans (HB19.out.mono HBW.out.size)⟩
        · obtain ⟨rfl⟩ : fr9 = fr := inv_eq HI.out HI9.out (List.Perm.refl _)
          have HG := Lib.hid (getNo HK9.out HN4.out)
          unfold slotV at HG
          simp only at HG
          have x9a := HB9.out.cell (p := ⟨w.heap.size, 0, none⟩) hX |>.trans X0.out
          have x9b := HB9.out.cell (p := ⟨w.heap.size, 1, none⟩) hX |>.trans X1.out
          have x9c := HB9.out.cell (p := ⟨w.heap.size, 2, none⟩) hX |>.trans X2.out
          have x9d := HB9.out.cell (p := ⟨w.heap.size, 3, none⟩) hX |>.trans X3.out
          go_wp2_with fail
          refine (HG.out).mono ?_
          rintro e w10 ⟨rfl, hb10⟩
          have HB10z := Lib.hid (HB9.out.trans (hb10.mono HB9.out.size))
          have HB10 := Lib.hid (HB10z.out.alloc HB10z.out.size (.cells #[.int .i64 0, .int .i64 0, .int .i64 0, .int .i64 0] 29))
          have hba : Below w9.heap.size w9 (w10.alloc (.cells #[.int .i64 0, .int .i64 0, .int .i64 0, .int .i64 0] 29)) := hb10.alloc hb10.size _
          have HV10 := Lib.hid (HV9.out.below hba)
          have HW10 := Lib.hid (HW9.out.below hba)
          have HK10 := Lib.hid (HK9.out.below hba)
          clear x9a
          clear x9b
          clear x9c
          clear x9d
          clear hb10 hba
          have HSTf := Lib.hid (stepsAny HK10.out (by have := HI.out.flen; omega))
          go_wp2_with fail
          refine (HSTf.out).mono ?_
          rintro e w11 ⟨⟨v11, rfl, hv11⟩, hb11⟩
          have HB11 := Lib.hid (HB10.out.trans (hb11.mono HB10.out.size))
          have HSF := Lib.hid (sameStepsT hv11.is (HV10.out.below hb11) rfl)
          have HW11 := Lib.hid (HW10.out.below hb11)
          have HK11 := Lib.hid (HK10.out.below hb11)
          clear hv11 hb11
          go_wp2_with fail
          refine (HSF.out).mono ?_
          rintro e w12 ⟨rfl, hb12⟩
          have HB12 := Lib.hid (HB11.out.trans (hb12.mono HB11.out.size))
          have HW12 := Lib.hid (HW11.out.below hb12)
          have HK12 := Lib.hid (HK11.out.below hb12)
          have HSG := Lib.hid (slotsAny HK12.out (fun s hs => ⟨(right_iff.1 (HI.out.rt s hs)).1, HM.out s hs⟩) HI.out.len)
          clear hb12
          go_wp2_with fail
          refine (HSG.out).mono ?_
          rintro e w13 ⟨v13, S13, rfl, hso13, hv13, hb13⟩
          have HB13 := Lib.hid (HB12.out.trans (hb13.mono HB12.out.size))
          have HSH := Lib.hid (sameSlotsT hv13.is (HW12.out.below hb13) (SortedOf.unique hso13 HSO.out HI.out.ids))
          have HK13 := Lib.hid (HK12.out.below hb13)
          clear hso13 hv13 hb13
          go_wp2_with fail
          refine (HSH.out).mono ?_
          rintro e w14 ⟨rfl, hb14⟩
          have HB14 := Lib.hid (HB13.out.trans (hb14.mono HB13.out.size))
          have HK14 := Lib.hid (HK13.out.below hb14)
          clear hb14
          have x14a := HB14.out.cell (p := ⟨w.heap.size, 0, none⟩) hX |>.trans X0.out
          have x14b := HB14.out.cell (p := ⟨w.heap.size, 1, none⟩) hX |>.trans X1.out
          have x14c := HB14.out.cell (p := ⟨w.heap.size, 2, none⟩) hX |>.trans X2.out
          have x14d := HB14.out.cell (p := ⟨w.heap.size, 3, none⟩) hX |>.trans X3.out
          have hltc := HK14.out.lt
          have hvi : IsInts (w14.alloc (.cells #[.int .i64 id] 3)) (.slice (some ⟨w14.heap.size, 0, none⟩) 1 1) [id] := by
            exact (show OwnInts _ w14.heap.size _ [id] from World.ownsRow_lit (e := 3) (size := 1) w14 #[.int .i64 id] 1 (Nat.le_refl _) (by unfold maxLen; omega) rfl).is
          have hap : Apart bk (.slice (some ⟨w14.heap.size, 0, none⟩) 1 1) := by
            intro a n' c' hv _ he
            cases hv
            have he2 : w14.heap.size = bk := he
            omega
          have HFR := Lib.hid (freeOne (d := ⟨2, ⟨id, 0, 0, 0⟩⟩) (HK14.out.alloc (.cells #[.int .i64 id] 3)) rfl hvi hap)
          clear hvi hap hltc
          go_wp2_with fail
          refine (HFR.out).mono ?_
          rintro e w15 ⟨err, up15, fr15, L15, rfl, hd15, hk15, hK15⟩
          obtain ⟨rfl, rfl, rfl, rfl⟩ := back_none HN4.out rfl hd15
          have HB14a := Lib.hid (HB14.out.alloc HB14.out.size (.cells #[.int .i64 id] 3))
          have HB15 := Lib.hid (HB14a.out.trans (hK15.below h1 h2 HB14a.out.size))
          clear x14a
          clear x14b
          clear x14c
          clear x14d
          clear hd15 hk15 hK15
          go_wp2_with fail
          refine (knownYes _).mono ?_
          rintro e w16 ⟨rfl, hb16⟩
          have HB16 := Lib.hid (HB15.out.trans (hb16.mono HB15.out.size))
          clear hb16
          go_wp2_with fail
          go_ret
          exact ⟨rfl, HBW.out.trans (HB16.out.mono HBW.out.size)⟩
        · obtain ⟨xi, xf, xt, xq⟩ := xs
          simp only at hxid
          subst xi
          have HG := Lib.hid (getYes (s := ⟨id, xf, xt, xq⟩) HK9.out (by simp))
          unfold slotV at HG
          simp only at HG
          have x9a := HB9.out.cell (p := ⟨w.heap.size, 0, none⟩) hX |>.trans X0.out
          have x9b := HB9.out.cell (p := ⟨w.heap.size, 1, none⟩) hX |>.trans X1.out
          have x9c := HB9.out.cell (p := ⟨w.heap.size, 2, none⟩) hX |>.trans X2.out
          have x9d := HB9.out.cell (p := ⟨w.heap.size, 3, none⟩) hX |>.trans X3.out
          go_wp2_with fail
          refine (HG.out).mono ?_
          rintro e w10 ⟨rfl, hb10⟩
          have HB10z := Lib.hid (HB9.out.trans (hb10.mono HB9.out.size))
          have HB10 := Lib.hid (HB10z.out.alloc HB10z.out.size (.cells #[.int .i64 id, .int .i64 xf, .int .i64 xt, .int .i64 xq] 29))
          have hba : Below w9.heap.size w9 (w10.alloc (.cells #[.int .i64 id, .int .i64 xf, .int .i64 xt, .int .i64 xq] 29)) := hb10.alloc hb10.size _
          have HV10 := Lib.hid (HV9.out.below hba)
          have HW10 := Lib.hid (HW9.out.below hba)
          have HK10 := Lib.hid (HK9.out.below hba)
          clear x9a
          clear x9b
          clear x9c
          clear x9d
          clear hb10 hba
          have x10a := HB10.out.cell (p := ⟨w.heap.size, 0, none⟩) hX |>.trans X0.out
          have x10b := HB10.out.cell (p := ⟨w.heap.size, 1, none⟩) hX |>.trans X1.out
          have x10c := HB10.out.cell (p := ⟨w.heap.size, 2, none⟩) hX |>.trans X2.out
          have x10d := HB10.out.cell (p := ⟨w.heap.size, 3, none⟩) hX |>.trans X3.out
          have hltc := HK10.out.lt
          have hvi : IsInts ((w10.alloc (.cells #[.int .i64 id, .int .i64 xf, .int .i64 xt, .int .i64 xq] 29)).alloc (.cells #[.int .i64 id] 3)) (.slice (some ⟨w10.heap.size + 1, 0, none⟩) 1 1) [id] := by
            have hs : (w10.alloc (.cells #[.int .i64 id, .int .i64 xf, .int .i64 xt, .int .i64 xq] 29)).heap.size = w10.heap.size + 1 := by simp
            rw [← hs]
            exact (show OwnInts _ (w10.alloc (.cells #[.int .i64 id, .int .i64 xf, .int .i64 xt, .int .i64 xq] 29)).heap.size _ [id] from World.ownsRow_lit (e := 3) (size := 1) (w10.alloc (.cells #[.int .i64 id, .int .i64 xf, .int .i64 xt, .int .i64 xq] 29)) #[.int .i64 id] 1 (Nat.le_refl _) (by unfold maxLen; omega) rfl).is
          have hap : Apart bk (.slice (some ⟨w10.heap.size + 1, 0, none⟩) 1 1) := by
            intro a n' c' hv _ he
            cases hv
            have he2 : w10.heap.size + 1 = bk := he
            simp at hltc
            omega
          have HFR := Lib.hid (freeOne (d := ⟨2, ⟨id, 0, 0, 0⟩⟩) (HK10.out.alloc (.cells #[.int .i64 id] 3)) rfl hvi hap)
          clear hvi hap hltc
          go_wp2_with fail
          refine (HFR.out).mono ?_
          rintro e w11 ⟨err, up11, fr11, L11, rfl, hd11, hk11, hK11⟩
          obtain ⟨rfl, rfl, rfl, rfl⟩ := back_free (s := ⟨id, xf, xt, xq⟩) HN4.out HI.out HI9.out rfl rfl hd11
          have HB10a := Lib.hid (HB10.out.alloc HB10.out.size (.cells #[.int .i64 id] 3))
          have hka : IsSteps ((w10.alloc (.cells #[.int .i64 id, .int .i64 xf, .int .i64 xt, .int .i64 xq] 29)).alloc (.cells #[.int .i64 id] 3)) _ _ := HV10.out.below ((Below.refl _ _).alloc (Nat.le_refl _) _)
          have hkb : IsSlots ((w10.alloc (.cells #[.int .i64 id, .int .i64 xf, .int .i64 xt, .int .i64 xq] 29)).alloc (.cells #[.int .i64 id] 3)) _ _ := HW10.out.below ((Below.refl _ _).alloc (Nat.le_refl _) _)
          have hmp := (HK10.out.alloc (.cells #[.int .i64 id] 3)).map
          have HB11 := Lib.hid (HB10a.out.trans (hK11.below h1 h2 HB10a.out.size))
          have HV11 := Lib.hid (hka.keptB hK11 HA2.out hmp)
          have HW11 := Lib.hid (hkb.keptB hK11 HA3.out hmp)
          have HK11 := Lib.hid hk11
          clear x10a
          clear x10b
          clear x10c
          clear x10d
          clear hd11 hk11 hK11 hka hkb hmp
          have HSTf := Lib.hid (stepsAny HK11.out (by have := HI.out.flen; omega))
          go_wp2_with fail
          refine (HSTf.out).mono ?_
          rintro e w12 ⟨⟨v12, rfl, hv12⟩, hb12⟩
          have HB12 := Lib.hid (HB11.out.trans (hb12.mono HB11.out.size))
          have HSF := Lib.hid (sameStepsT hv12.is (HV11.out.below hb12) rfl)
          have HW12 := Lib.hid (HW11.out.below hb12)
          have HK12 := Lib.hid (HK11.out.below hb12)
          clear hv12 hb12
          go_wp2_with fail
          refine (HSF.out).mono ?_
          rintro e w13 ⟨rfl, hb13⟩
          have HB13 := Lib.hid (HB12.out.trans (hb13.mono HB12.out.size))
          have HW13 := Lib.hid (HW12.out.below hb13)
          have HK13 := Lib.hid (HK12.out.below hb13)
          have HSG := Lib.hid (slotsAny HK13.out (fun s hs => ⟨(right_iff.1 (HI.out.rt s hs)).1, HM.out s hs⟩) HI.out.len)
          clear hb13
          go_wp2_with fail
          refine (HSG.out).mono ?_
          rintro e w14 ⟨v14, S14, rfl, hso14, hv14, hb14⟩
          have HB14 := Lib.hid (HB13.out.trans (hb14.mono HB13.out.size))
          have HSH := Lib.hid (sameSlotsT hv14.is (HW13.out.below hb14) (SortedOf.unique hso14 HSO.out HI.out.ids))
          have HK14 := Lib.hid (HK13.out.below hb14)
          clear hso14 hv14 hb14
          go_wp2_with fail
          refine (HSH.out).mono ?_
          rintro e w15 ⟨rfl, hb15⟩
          have HB15 := Lib.hid (HB14.out.trans (hb15.mono HB14.out.size))
          have HK15 := Lib.hid (HK14.out.below hb15)
          clear hb15
          have x15a := HB15.out.cell (p := ⟨w.heap.size, 0, none⟩) hX |>.trans X0.out
          have x15b := HB15.out.cell (p := ⟨w.heap.size, 1, none⟩) hX |>.trans X1.out
          have x15c := HB15.out.cell (p := ⟨w.heap.size, 2, none⟩) hX |>.trans X2.out
          have x15d := HB15.out.cell (p := ⟨w.heap.size, 3, none⟩) hX |>.trans X3.out
          have hltc := HK15.out.lt
          have hvi : IsInts (w15.alloc (.cells #[.int .i64 id] 3)) (.slice (some ⟨w15.heap.size, 0, none⟩) 1 1) [id] := by
            exact (show OwnInts _ w15.heap.size _ [id] from World.ownsRow_lit (e := 3) (size := 1) w15 #[.int .i64 id] 1 (Nat.le_refl _) (by unfold maxLen; omega) rfl).is
          have hap : Apart bk (.slice (some ⟨w15.heap.size, 0, none⟩) 1 1) := by
            intro a n' c' hv _ he
            cases hv
            have he2 : w15.heap.size = bk := he
            omega
          have HFR := Lib.hid (freeOne (d := ⟨2, ⟨id, 0, 0, 0⟩⟩) (HK15.out.alloc (.cells #[.int .i64 id] 3)) rfl hvi hap)
          clear hvi hap hltc
          go_wp2_with fail
          refine (HFR.out).mono ?_
          rintro e w16 ⟨err, up16, fr16, L16, rfl, hd16, hk16, hK16⟩
          obtain ⟨rfl, rfl, rfl, rfl⟩ := back_none HN4.out rfl hd16
          have HB15a := Lib.hid (HB15.out.alloc HB15.out.size (.cells #[.int .i64 id] 3))
          have HB16 := Lib.hid (HB15a.out.trans (hK16.below h1 h2 HB15a.out.size))
          clear x15a
          clear x15b
          clear x15c
          clear x15d
          clear hd16 hk16 hK16
          go_wp2_with fail
          refine (knownYes _).mono ?_
          rintro e w17 ⟨rfl, hb17⟩
          have HB17 := Lib.hid (HB16.out.trans (hb17.mono HB16.out.size))
          clear hb17
          go_wp2_with fail
          go_ret
          exact ⟨rfl, HBW.out.trans (HB17.out.mono HBW.out.size)⟩

end Go.Proofs.Ytjknmnmilladlaa
