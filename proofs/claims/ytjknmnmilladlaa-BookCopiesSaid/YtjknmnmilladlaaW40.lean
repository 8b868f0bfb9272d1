/-
  Walk: the law BookCopies. (Printed by gen40.py.)
-/
import Derived.Test.YtjknmnmilladlaaW38
import Derived.Test.YtjknmnmilladlaaP19
namespace Go.Proofs.Ytjknmnmilladlaa
open Go.RowKit

set_option maxHeartbeats 8000000 in
set_option maxRecDepth 100000 in
theorem copiesKnown (g : Int) {w : World} {v vm vi : Value} {l lm : List Do} {ids : List Int} (h : IsDos w v l) (hm : IsDos w vm lm) (hi : IsInts w vi ids) (hc : 40 < l.length ∨ 40 < lm.length ∨ 20 < ids.length) : Calls Try.prog 9 #[.int .u8 g, v, vm, vi] w (Yes w) := by
  obtain ⟨ao, cap, rfl, p1, p2⟩ := h.shape
  obtain ⟨aom, capm, rfl, pm1, pm2⟩ := hm.shape
  obtain ⟨aoi, capi, rfl, pi1, pi2⟩ := hi.shape
  obtain ⟨N, hN⟩ : ∃ N, N = l.length := ⟨_, rfl⟩
  obtain ⟨N2, hN2⟩ : ∃ N2, N2 = lm.length := ⟨_, rfl⟩
  obtain ⟨N3, hN3⟩ : ∃ N3, N3 = ids.length := ⟨_, rfl⟩
  rw [← hN] at hc p1 ⊢
  rw [← hN2] at hc pm1 ⊢
  rw [← hN3] at hc pi1 ⊢
  clear h hm hi hN hN2 hN3
  have hcases : decide ((40 : Int) < N) = true ∨ (decide ((40 : Int) < N) = false ∧ decide ((40 : Int) < N2) = true) ∨ (decide ((40 : Int) < N) = false ∧ decide ((40 : Int) < N2) = false ∧ decide ((20 : Int) < N3) = true) := by
    simp only [decide_eq_true_eq, decide_eq_false_iff_not]
    omega
  clear hc
  rcases hcases with d1 | ⟨d1, d2⟩ | ⟨d1, d2, d3⟩
  all_goals
    go_enter Try.func9, Try.ntmps9
    go_wp2_with fail
    refine (knownYes _).mono ?_
    rintro e w1 ⟨rfl, hb1⟩
    have HB := Lib.hid hb1
    clear hb1
    go_wp2_with fail
    go_ret
    exact ⟨rfl, HB.out⟩

set_option maxHeartbeats 16000000 in
set_option maxRecDepth 100000 in
theorem copiesMain (g : Int) {w : World} {v vm vi : Value} {l lm : List Do} {ids : List Int} (h : IsDos w v l) (hm0 : IsDos w vm lm) (hi0 : IsInts w vi ids) (hdb : ∀ d ∈ l, d.s.id ≤ 9223372036854775807) (g1 : 0 ≤ g) (g2 : g ≤ 255) (hl : l.length ≤ 40) (hlm : lm.length ≤ 40) (hli : ids.length ≤ 20) : Calls Try.prog 9 #[.int .u8 g, v, vm, vi] w (Yes w) := by
  have HN := Lib.hid (newYes (1 + g) w (by omega) (by omega))
  have HI0 := Lib.hid (Inv.new (n := 1 + g) (by omega) (by omega))
  obtain ⟨N, hN⟩ : ∃ N, N = l.length := ⟨_, rfl⟩
  have hC : ∀ i, i < N → ∃ b o cap, v = .slice (some ⟨b, o, none⟩) N cap ∧ b < w.heap.size ∧ N ≤ cap ∧ cap ≤ 9223372036854775807 ∧ (∀ j u, (doCells (l.getD i default))[j]? = some u → w.cell? ⟨b, o + i * 5 + j, none⟩ = some u) ∧ (l.getD i default).s.id ≤ 9223372036854775807 := by
    intro i hi
    obtain ⟨b, o, cap, h0, h1, h2, h3, h4⟩ := doAtV h (by omega)
    refine ⟨b, o, cap, by rw [hN]; exact h0, h3, by omega, h2, h4 i (by omega), hdb _ ?_⟩
    rw [List.getD_eq_getElem?_getD, List.getElem?_eq_getElem (by omega)]
    exact List.getElem_mem _
  obtain ⟨ao, cap, rfl, p1, p2⟩ := h.shape
  rw [← hN] at hl p1 hC ⊢
  have HC := Lib.hid hC
  obtain ⟨aom, capm, rfl, pm1, pm2⟩ := hm0.shape
  obtain ⟨aoi, capi, rfl, pi1, pi2⟩ := hi0.shape
  obtain ⟨N2, hN2⟩ : ∃ N2, N2 = lm.length := ⟨_, rfl⟩
  obtain ⟨N3, hN3⟩ : ∃ N3, N3 = ids.length := ⟨_, rfl⟩
  rw [← hN2] at hlm pm1 ⊢
  rw [← hN3] at hli pi1 hi0 ⊢
  have HM0 := Lib.hid hm0
  have HV0 := Lib.hid hi0
  have HN2 := Lib.hid hN2
  have HN3 := Lib.hid hN3
  have d1 : decide ((40 : Int) < N) = false := by simp; omega
  have d2 : decide ((40 : Int) < N2) = false := by simp; omega
  have d3 : decide ((20 : Int) < N3) = false := by simp; omega
  have hw1 : IntKind.i64.wrap (1 + g) = 1 + g := small_wrap (by omega) (by omega)
  clear h hN hC hdb hm0 hi0 hN2 hN3
  go_enter Try.func9, Try.ntmps9
  go_wp2_with fail
  refine (HN.out).mono ?_
  rintro e w1 ⟨⟨bk, bm, rfl, hk, h1, h2⟩, hb1⟩
  have HK := Lib.hid hk
  have HB := Lib.hid hb1
  clear hk hb1
  go_wp2_with fail
  go_loopw [11] (fun i wr => ∃ (k : Nat) (up fr : List Step) (L : List Slot), k ≤ N ∧ i = .int .i64 k ∧ Below w.heap.size w wr ∧ BookIs wr bk bm (1 + g) up fr L ∧ Inv (1 + g) up fr L ∧ ∀ x ∈ L, x.id ≤ 9223372036854775807) (fun i _ => N - (intOf i).toNat)
  case atStart => exact ⟨0, _, _, _, by omega, rfl, HB.out, HK.out, HI0.out, by simp⟩
  case round =>
    obtain ⟨k, up, fr, L, hk, rfl, hb, hbk, hI, hM⟩ := hrel
    clear HK HB HI0
    have HB := Lib.hid hb
    have HK := Lib.hid hbk
    have HI := Lib.hid hI
    have HM := Lib.hid hM
    by_cases hkN : k < N
    · obtain ⟨b, o, cap2, e0, hbw, hNc, hcap, hcell, hdi⟩ := HC.out k hkN
      cases e0
      obtain ⟨d, hd⟩ : ∃ d, d = l.getD k default := ⟨_, rfl⟩
      rw [← hd] at hcell hdi
      have hkk : (k : Int) < N := by omega
      have hcc : ∀ j u, (doCells d)[j]? = some u → wr.cell? ⟨b, o + k * 5 + j, none⟩ = some u := fun j u hu => (hb.cell (p := ⟨b, o + k * 5 + j, none⟩) hbw).trans (hcell j u hu)
      have q0 : wr.cell? ⟨b, o + k * 5, none⟩ = some (.int .i64 d.kind) := hcc 0 _ rfl
      have q1 := hcc 1 _ rfl
      have q2 := hcc 2 _ rfl
      have q3 := hcc 3 _ rfl
      have q4 := hcc 4 _ rfl
      have HD := Lib.hid (doneAny hbk hI d)
      unfold doV at HD
      have HDI := Lib.hid hdi
      clear hcell hcc hb hbk hI hd hM hdi
      go_wp2_with fail
      refine (HD.out).mono ?_
      rintro e w2 ⟨u, ids, err, up2, fr2, L2, rfl, hv2, hd2, hk2, hK2⟩
      have hb2 := HB.out.trans (hK2.below h1 h2 HB.out.size)
      have hI2 := hd2.inv HI.out
      have HB2 := Lib.hid hb2
      have HK2 := Lib.hid hk2
      have HI2 := Lib.hid hI2
      have HM2 := Lib.hid (hd2.ids_le HM.out HDI.out)
      clear hv2 hd2 hk2 hK2 hb2 hI2
      go_wp2_with fail
      go_roundw
      case rel => exact ⟨k + 1, up2, fr2, L2, by omega, by go_num, HB2.out, HK2.out, HI2.out, HM2.out⟩
      case measure => simp [intOf]; omega
    · obtain rfl : k = N := by omega
      have hd9 : decide ((k : Int) < k) = false := by simp
      have HST := Lib.hid (stepsAny hbk (by have := hI.flen; omega))
      have hltk := hbk.lt
      clear hb hbk hI hM
      go_wp2_with fail
      refine (HST.out).mono ?_
      rintro e w2 ⟨⟨v2, rfl, hv2⟩, hb2⟩
      have HB2 := Lib.hid (HB.out.trans (hb2.mono HB.out.size))
      have HK2 := Lib.hid (HK.out.below hb2)
      have HV2 := Lib.hid hv2.is
      have HSL := Lib.hid (slotsAny HK2.out (fun s hs => ⟨(right_iff.1 (HI.out.rt s hs)).1, HM.out s hs⟩) HI.out.len)
      obtain ⟨a2, c2, rfl, _, _⟩ := hv2.is.shape
      clear hv2 hb2
      go_wp2_with fail
      refine (HSL.out).mono ?_
      rintro e w3 ⟨v3, S, rfl, hso, hv3, hb3⟩
      have HB3 := Lib.hid (HB2.out.trans (hb3.mono HB2.out.size))
      have HK3 := Lib.hid (HK2.out.below hb3)
      have HW3 := Lib.hid hv3.is
      have HV3 := Lib.hid (HV2.out.below hb3)
      have HSO := Lib.hid hso
      have HCO := Lib.hid (copyAny HK3.out (by have := HI.out.ul; omega) (by have := HI.out.flen; omega) HI.out.ids)
      obtain ⟨a3, c3, rfl, _, _⟩ := hv3.is.shape
      clear hv3 hb3 hso
      go_wp2_with fail
      refine (HCO.out).mono ?_
      rintro e w4 ⟨ck, cm, L4, rfl, hp4, hk4, hck, hcm, hb4, ha4⟩
      have HB4 := Lib.hid (HB3.out.trans (hb4.mono HB3.out.size))
      have HK4 := Lib.hid (HK3.out.below hb4)
      have HV4 := Lib.hid (HV3.out.below hb4)
      have HW4 := Lib.hid (HW3.out.below hb4)
      have HC4 := Lib.hid hk4
      have HP4 := Lib.hid hp4
      have HD4 := Lib.hid hb4
      have HIc := Lib.hid (HI.out.perm hp4)
      have HSTc := Lib.hid (stepsAny hk4 (by have := HI.out.flen; omega))
      clear hp4 hk4 hb4 ha4
      go_wp2_with fail
      refine (HSTc.out).mono ?_
      rintro e w5 ⟨⟨v5, rfl, hv5⟩, hb5⟩
      have HB5 := Lib.hid (HB4.out.trans (hb5.mono HB4.out.size))
      have HSA := Lib.hid (sameStepsT hv5.is (HV4.out.below hb5) rfl)
      have HD5 := Lib.hid (HD4.out.trans (hb5.mono HD4.out.size))
      have HC5 := Lib.hid (HC4.out.below hb5)
      have HW5 := Lib.hid (HW4.out.below hb5)
      clear hv5 hb5
      go_wp2_with fail
      refine (HSA.out).mono ?_
      rintro e w6 ⟨rfl, hb6⟩
      have HB6 := Lib.hid (HB5.out.trans (hb6.mono HB5.out.size))
      have HD6 := Lib.hid (HD5.out.trans (hb6.mono HD5.out.size))
      have HC6 := Lib.hid (HC5.out.below hb6)
      have HW6 := Lib.hid (HW5.out.below hb6)
      have HSLc := Lib.hid (slotsAny HC6.out (fun s hs => ⟨(right_iff.1 (HIc.out.rt s hs)).1, (fun x hx => HM.out x (HP4.out.subset hx)) s hs⟩) HIc.out.len)
      clear hb6
      go_wp2_with fail
      refine (HSLc.out).mono ?_
      rintro e w7 ⟨v7, S7, rfl, hso7, hv7, hb7⟩
      have HB7 := Lib.hid (HB6.out.trans (hb7.mono HB6.out.size))
      have HSB := Lib.hid (sameSlotsT hv7.is (HW6.out.below hb7) (SortedOf.unique (hso7.perm HP4.out) HSO.out HI.out.ids))
      have HD7 := Lib.hid (HD6.out.trans (hb7.mono HD6.out.size))
      have HC7 := Lib.hid (HC6.out.below hb7)
      clear hso7 hv7 hb7
      go_wp2_with fail
      refine (HSB.out).mono ?_
      rintro e w8 ⟨rfl, hb8⟩
      have HB8 := Lib.hid (HB7.out.trans (hb8.mono HB7.out.size))
      have HD8 := Lib.hid (HD7.out.trans (hb8.mono HD7.out.size))
      have HC8 := Lib.hid (HC7.out.below hb8)
      clear hb8
      go_wp2_with fail
      go_loopw [15] (fun i wr => ∃ (z : Nat) (upc frc : List Step) (Lc : List Slot), z ≤ N2 ∧ i = .int .i64 z ∧ Below w3.heap.size w3 wr ∧ BookIs wr ck cm (1 + g) upc frc Lc ∧ Inv (1 + g) upc frc Lc) (fun i _ => N2 - (intOf i).toNat)
      case atStart => exact ⟨0, _, _, _, by omega, rfl, HD8.out, HC8.out, HIc.out⟩
      case round =>
        obtain ⟨z, upc, frc, Lc, hz, rfl, hbc, hkc, hIc⟩ := hrel
        have HDr := Lib.hid hbc
        by_cases hzN : z < N2
        · obtain ⟨b, o, cap2, e0, q5, q6, hbw, hcell⟩ := doAtV HM0.out (by rw [← HN2.out]; omega)
          cases e0
          have hcell := hcell z (by rw [← HN2.out]; exact hzN)
          obtain ⟨d, hd⟩ : ∃ d, d = lm.getD z default := ⟨_, rfl⟩
          rw [← hd] at hcell
          have hzz : (z : Int) < N2 := by omega
          have hbwr : Below w.heap.size w wr := HB3.out.trans (hbc.mono HB3.out.size)
          have hcc : ∀ j u, (doCells d)[j]? = some u → wr.cell? ⟨b, o + z * 5 + j, none⟩ = some u := fun j u hu => (hbwr.cell (p := ⟨b, o + z * 5 + j, none⟩) hbw).trans (hcell j u hu)
          have q0 : wr.cell? ⟨b, o + z * 5, none⟩ = some (.int .i64 d.kind) := hcc 0 _ rfl
          have q1 := hcc 1 _ rfl
          have q2 := hcc 2 _ rfl
          have q3 := hcc 3 _ rfl
          have q4 := hcc 4 _ rfl
          have HDN := Lib.hid (doneAny hkc hIc d)
          unfold doV at HDN
          have HIr := Lib.hid hIc
          clear hcell hcc hbc hkc hIc hd hbwr
          go_wp2_with fail
          refine (HDN.out).mono ?_
          rintro e w9 ⟨u, ids9, err, up9, fr9, L9, rfl, hv9, hd9, hk9, hK9⟩
          have HD9 := Lib.hid (HDr.out.trans (hK9.below hck hcm HDr.out.size))
          have HI9 := Lib.hid (hd9.inv HIr.out)
          have HC9 := Lib.hid hk9
          clear hv9 hd9 hk9 hK9
          go_wp2_with fail
          go_roundw
          case rel => exact ⟨z + 1, up9, fr9, L9, by omega, by go_num, HD9.out, HC9.out, HI9.out⟩
          case measure => simp [intOf]; omega
        · obtain rfl : z = N2 := by omega
          have hd6 : decide ((z : Int) < z) = false := by simp
          have HB9 := Lib.hid (HB3.out.trans (hbc.mono HB3.out.size))
          have HK9 := Lib.hid (HK3.out.below hbc)
          have HV9 := Lib.hid (HV3.out.below hbc)
          have HW9 := Lib.hid (HW3.out.below hbc)
          have HSTb := Lib.hid (stepsAny HK9.out (by have := HI.out.flen; omega))
          clear hbc hkc hIc
          go_wp2_with fail
          refine (HSTb.out).mono ?_
          rintro e w10 ⟨⟨v10, rfl, hv10⟩, hb10⟩
          have HB10 := Lib.hid (HB9.out.trans (hb10.mono HB9.out.size))
          have HSA2 := Lib.hid (sameStepsT hv10.is (HV9.out.below hb10) rfl)
          have HK10 := Lib.hid (HK9.out.below hb10)
          have HW10 := Lib.hid (HW9.out.below hb10)
          clear hv10 hb10
          go_wp2_with fail
          refine (HSA2.out).mono ?_
          rintro e w11 ⟨rfl, hb11⟩
          have HB11 := Lib.hid (HB10.out.trans (hb11.mono HB10.out.size))
          have HK11 := Lib.hid (HK10.out.below hb11)
          have HW11 := Lib.hid (HW10.out.below hb11)
          have HSLb := Lib.hid (slotsAny HK11.out (fun s hs => ⟨(right_iff.1 (HI.out.rt s hs)).1, HM.out s hs⟩) HI.out.len)
          clear hb11
          go_wp2_with fail
          refine (HSLb.out).mono ?_
          rintro e w12 ⟨v12, S12, rfl, hso12, hv12, hb12⟩
          have HB12 := Lib.hid (HB11.out.trans (hb12.mono HB11.out.size))
          have HSB2 := Lib.hid (sameSlotsT hv12.is (HW11.out.below hb12) (SortedOf.unique hso12 HSO.out HI.out.ids))
          have HK12 := Lib.hid (HK11.out.below hb12)
          have HW12 := Lib.hid (HW11.out.below hb12)
          clear hso12 hv12 hb12
          go_wp2_with fail
          refine (HSB2.out).mono ?_
          rintro e w13 ⟨rfl, hb13⟩
          have HB13 := Lib.hid (HB12.out.trans (hb13.mono HB12.out.size))
          have HK13 := Lib.hid (HK12.out.below hb13)
          have HW13 := Lib.hid (HW12.out.below hb13)
          have HCO2 := Lib.hid (copyAny HK13.out (by have := HI.out.ul; omega) (by have := HI.out.flen; omega) HI.out.ids)
          have hs13 : w.heap.size ≤ w13.heap.size := HB13.out.size
          clear hb13
          go_wp2_with fail
          refine (HCO2.out).mono ?_
          rintro e w14 ⟨dk, dm, L14, rfl, hp14, hk14, hdk, hdm, hb14, ha14⟩
          have HB14 := Lib.hid (HB13.out.trans (hb14.mono HB13.out.size))
          have HK14 := Lib.hid (HK13.out.below hb14)
          have HW14 := Lib.hid (HW13.out.below hb14)
          have HE14 := Lib.hid hk14
          have HP14 := Lib.hid hp14
          have HId := Lib.hid (HI.out.perm hp14)
          have hbk13 : bk < w13.heap.size := HK13.out.lt
          have hbm13 : bm < w13.heap.size := HK13.out.map.lt
          have HAb := Lib.hid (show AwayB w14 bk dk from (HK13.out.away hdk).below hb14 HK13.out.lt)
          have HAd := Lib.hid (ha14 bk hbk13)
          have hdks : dk < w14.heap.size := hk14.lt
          have hv14 : IsInts w14 (.slice aoi N3 capi) ids := HV0.out.below HB14.out
          have hap14 : Apart bk (.slice aoi N3 capi) := Apart.ints HV0.out h1
          have HFR := Lib.hid (freeAny HK14.out hv14 hap14)
          clear hp14 hk14 hb14 ha14 hv14 hap14
          go_wp2_with fail
          refine (HFR.out).mono ?_
          rintro e w15 h15
          rcases h15 with ⟨hng, rfl, hb15⟩ | ⟨hgo, rfl, fr15, L15, hdr, hlp⟩
          · have HB15 := Lib.hid (HB14.out.trans (hb15.mono HB14.out.size))
            have HK15 := Lib.hid (HK14.out.below hb15)
            have HW15 := Lib.hid (HW14.out.below hb15)
            have HSLx := Lib.hid (slotsAny HK15.out (fun s hs => ⟨(right_iff.1 (HI.out.rt s hs)).1, HM.out s hs⟩) HI.out.len)
            clear hb15 hng
            go_wp2_with fail
            refine (HSLx.out).mono ?_
            rintro e w16 ⟨v16, S16, rfl, hso16, hv16, hb16⟩
            have HB16 := Lib.hid (HB15.out.trans (hb16.mono HB15.out.size))
            have HSBx := Lib.hid (sameSlotsT hv16.is (HW15.out.below hb16) (SortedOf.unique hso16 HSO.out HI.out.ids))
            clear hso16 hv16 hb16
            go_wp2_with fail
            refine (HSBx.out).mono ?_
            rintro e w17 ⟨rfl, hb17⟩
            have HB17 := Lib.hid (HB16.out.trans (hb17.mono HB16.out.size))
            clear hb17
            go_wp2_with fail
            refine (knownYes _).mono ?_
            rintro e w18 ⟨rfl, hb18⟩
            have HB18 := Lib.hid (HB17.out.trans (hb18.mono HB17.out.size))
            clear hb18
            go_wp2_with fail
            go_ret
            exact ⟨rfl, HB18.out⟩
          · have HB15 := Lib.hid (HB14.out.trans (hlp.2.1.below h1 h2 HB14.out.size))
            have HK15 := Lib.hid hlp.1
            have HAb15 := Lib.hid (hlp.2.2 dk hdks HAb.out)
            have hE15 := HE14.out.keptO hlp.2.1 (by omega) (by omega) (by omega) (by omega) HAd.out HK14.out.map
            have HE15 := Lib.hid hE15.1
            have HGO := Lib.hid hgo
            have HDR := Lib.hid hdr
            have HI15 := Lib.hid (hdr.inv HI.out)
            have hwd : w.heap.size ≤ dk := by omega
            have hwm : w.heap.size ≤ dm := by omega
            clear hgo hdr hlp hE15
            go_wp2_with fail
            go_loopw [18] (fun i wr => ∃ (z2 : Nat) (fre : List Step) (Le : List Slot), z2 ≤ N3 ∧ i = .int .i64 z2 ∧ Below w.heap.size w wr ∧ BookIs wr bk bm (1 + g) up fr15 L15 ∧ AwayB wr bk dk ∧ BookIs wr dk dm (1 + g) up fre Le ∧ Drops fr L14 (ids.take z2) fre Le) (fun i _ => N3 - (intOf i).toNat)
            case atStart => exact ⟨0, _, _, by omega, rfl, HB15.out, HK15.out, HAb15.out, HE15.out, Drops.nil⟩
            case round =>
              obtain ⟨z2, fre, Le, hz2, rfl, hbr, hkr, har, her, hdr⟩ := hrel
              have HBr := Lib.hid hbr
              have HKr := Lib.hid hkr
              have HAr := Lib.hid har
              have HEr := Lib.hid her
              have HDr2 := Lib.hid hdr
              clear hkr har HB15 HK15 HAb15 HE15
              by_cases hzN : z2 < N3
              · have hvr : IsInts wr (.slice aoi N3 capi) ids := HV0.out.below hbr
                obtain ⟨b, o, cap3, e0, _, _, hbw, hcell⟩ := intAtV hvr (by rw [← HN3.out]; omega)
                rw [← HN3.out] at e0
                cases e0
                obtain ⟨x, hx, q0⟩ := hcell z2 (by rw [← HN3.out]; exact hzN)
                have hzz : (z2 : Int) < N3 := by omega
                have hg := HGO.out z2 (by rw [← HN3.out]; exact hzN)
                unfold okAt at hg
                rw [hx] at hg
                obtain ⟨⟨s, hs, hid⟩, hnt⟩ := hg
                have hs2 := hdr.left s (HP14.out.symm.subset hs) (by rw [hid]; exact hnt)
                have hlte := her.lt
                have hvi : IsInts (wr.alloc (.cells #[.int .i64 x] 3)) (.slice (some ⟨wr.heap.size, 0, none⟩) 1 1) [x] :=
                  (show OwnInts _ wr.heap.size _ [x] from World.ownsRow_lit (e := 3) (size := 1) wr #[.int .i64 x] 1 (Nat.le_refl _) (by unfold maxLen; omega) rfl).is
                have hap : Apart dk (.slice (some ⟨wr.heap.size, 0, none⟩) 1 1) := by
                  intro a n' c' hv _ he
                  cases hv
                  have he2 : wr.heap.size = dk := he
                  omega
                have HFE := Lib.hid (freeOne (d := ⟨2, ⟨x, 0, 0, 0⟩⟩) (her.alloc (.cells #[.int .i64 x] 3)) rfl hvi hap)
                have HS2 := Lib.hid hs2
                have HID := Lib.hid hid
                have HX := Lib.hid hx
                have hbk2 : bk < wr.heap.size := HKr.out.lt
                have hbka := HKr.out.alloc (.cells #[.int .i64 x] 3)
                have hbaa := HAr.out.below ((Below.refl wr.heap.size wr).alloc (Nat.le_refl _) (.cells #[.int .i64 x] 3)) HKr.out.lt
                have hema := (her.alloc (.cells #[.int .i64 x] 3)).map
                have HKa := Lib.hid hbka
                have HAa := Lib.hid hbaa
                have HEm := Lib.hid hema
                clear hvi hap hs2 hid hx hvr hcell hs hnt her hdr hbr hbka hbaa hema hlte
                go_wp2_with fail
                refine (HFE.out).mono ?_
                rintro e w16 ⟨err, up16, fr16, L16, rfl, hd16, hk16, hK16⟩
                obtain ⟨_, hu16, h6 | ⟨he16, y, hy, hyid, hf16, hl16⟩⟩ := hd16.free_inv rfl
                · exact absurd HID.out (h6.2.2.1 s HS2.out)
                subst he16
                subst hu16
                have hba16 := HBr.out.alloc HBr.out.size (.cells #[.int .i64 x] 3)
                have HB16 := Lib.hid (hba16.trans (hK16.below hwd hwm hba16.size))
                have hO := HKa.out.keptO hK16 (by omega) (by omega) (by omega) (by omega) HAa.out HEm.out
                have HK16 := Lib.hid hO.1
                have HA16 := Lib.hid (hO.2 dk HAa.out)
                have HE16 := Lib.hid hk16
                have hdr2 : Drops fr L14 (ids.take (z2 + 1)) fr16 L16 := by
                  have hlt2 : z2 < ids.length := by rw [← HN3.out]; exact hzN
                  have h9 := Drops.snoc HDr2.out hy
                  rw [← hf16, ← hl16] at h9
                  have h10 : ids.take (z2 + 1) = ids.take z2 ++ [y.id] := by
                    rw [List.take_succ_eq_append_getElem hlt2]
                    have := HX.out
                    rw [List.getD_eq_getElem?_getD, List.getElem?_eq_getElem hlt2] at this
                    simp only [Option.getD_some] at this
                    rw [this, hyid]
                  rw [h10]
                  exact h9
                have HDR2 := Lib.hid hdr2
                clear hd16 hk16 hK16 hO hba16 hdr2 hf16 hl16 hy hyid
                go_wp2_with fail
                go_roundw
                case rel => exact ⟨z2 + 1, fr16, L16, by omega, by go_num, HB16.out, HK16.out, HA16.out, HE16.out, HDR2.out⟩
                case measure => simp [intOf]; omega
              · obtain rfl : z2 = N3 := by omega
                have hd8 : decide ((z2 : Int) < z2) = false := by simp
                have hall : ids.take z2 = ids := by rw [HN3.out, List.take_length]
                rw [hall] at hdr
                have hboth := Drops.both HI.out HP14.out HDR.out hdr
                have hIe := hdr.inv HId.out
                have HBO := Lib.hid hboth
                have HIe := Lib.hid hIe
                have hMb : ∀ x ∈ L15, x.id ≤ 9223372036854775807 := fun x hx => HM.out x (HDR.out.sub.subset hx)
                have hMe : ∀ x ∈ Le, x.id ≤ 9223372036854775807 := fun x hx => HM.out x (HP14.out.subset (hdr.sub.subset hx))
                have HMb := Lib.hid hMb
                have HMe := Lib.hid hMe
                have HS1 := Lib.hid (stepsAny HKr.out (by have := HI15.out.flen; omega))
                clear hboth hIe hMb hMe hdr her hbr hall
                go_wp2_with fail
                refine (HS1.out).mono ?_
                rintro e w16 ⟨⟨v16, rfl, hv16⟩, hb16⟩
                have HB16 := Lib.hid (HBr.out.trans (hb16.mono HBr.out.size))
                have HK16 := Lib.hid (HKr.out.below hb16)
                have HE16 := Lib.hid (HEr.out.below hb16)
                have HX16 := Lib.hid hv16.is
                have HS2 := Lib.hid (stepsAny HE16.out (by have := HIe.out.flen; omega))
                clear hv16 hb16
                go_wp2_with fail
                refine (HS2.out).mono ?_
                rintro e w17 ⟨⟨v17, rfl, hv17⟩, hb17⟩
                have HB17 := Lib.hid (HB16.out.trans (hb17.mono HB16.out.size))
                have HK17 := Lib.hid (HK16.out.below hb17)
                have HE17 := Lib.hid (HE16.out.below hb17)
                have HSZ := Lib.hid (sameStepsT (HX16.out.below hb17) hv17.is HBO.out.2.symm)
                clear hv17 hb17
                go_wp2_with fail
                refine (HSZ.out).mono ?_
                rintro e w18 ⟨rfl, hb18⟩
                have HB18 := Lib.hid (HB17.out.trans (hb18.mono HB17.out.size))
                have HK18 := Lib.hid (HK17.out.below hb18)
                have HE18 := Lib.hid (HE17.out.below hb18)
                have HS3 := Lib.hid (slotsAny HK18.out (fun s hs => ⟨(right_iff.1 (HI15.out.rt s hs)).1, HMb.out s hs⟩) HI15.out.len)
                clear hb18
                go_wp2_with fail
                refine (HS3.out).mono ?_
                rintro e w19 ⟨v19, S19, rfl, hso19, hv19, hb19⟩
                have HB19 := Lib.hid (HB18.out.trans (hb19.mono HB18.out.size))
                have HE19 := Lib.hid (HE18.out.below hb19)
                have HX19 := Lib.hid hv19.is
                have HSO19 := Lib.hid hso19
                have HS4 := Lib.hid (slotsAny HE19.out (fun s hs => ⟨(right_iff.1 (HIe.out.rt s hs)).1, HMe.out s hs⟩) HIe.out.len)
                clear hv19 hb19 hso19
                go_wp2_with fail
                refine (HS4.out).mono ?_
                rintro e w20 ⟨v20, S20, rfl, hso20, hv20, hb20⟩
                have HB20 := Lib.hid (HB19.out.trans (hb20.mono HB19.out.size))
                have HSY := Lib.hid (sameSlotsT (HX19.out.below hb20) hv20.is (SortedOf.unique HSO19.out (hso20.perm HBO.out.1) HI15.out.ids))
                clear hv20 hb20 hso20
                go_wp2_with fail
                refine (HSY.out).mono ?_
                rintro e w21 ⟨rfl, hb21⟩
                have HB21 := Lib.hid (HB20.out.trans (hb21.mono HB20.out.size))
                clear hb21
                go_wp2_with fail
                refine (knownYes _).mono ?_
                rintro e w22 ⟨rfl, hb22⟩
                have HB22 := Lib.hid (HB21.out.trans (hb22.mono HB21.out.size))
                clear hb22
                go_wp2_with fail
                go_ret
                exact ⟨rfl, HB22.out⟩

end Go.Proofs.Ytjknmnmilladlaa
