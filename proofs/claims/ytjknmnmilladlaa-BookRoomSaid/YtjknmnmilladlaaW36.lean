/-
  Walk: the law BookRoom.
-/
import Derived.Test.YtjknmnmilladlaaLw
namespace Go.Proofs.Ytjknmnmilladlaa
open Go.RowKit

theorem loadOf_take {S : List Slot} {j : Nat} (h : j < S.length) (t : Int) : loadOf (S.take (j + 1)) t = loadOf (S.take j) t + covS t (S.getD j default) := by
  rw [List.take_succ_eq_append_getElem h, loadOf_snoc, List.getD_eq_getElem?_getD, List.getElem?_eq_getElem h]
  rfl

theorem pred_wrap {p : Nat} (h : p ≤ 4611686018427387904) : IntKind.i64.wrap ((p : Int) + 1 - 1) = p := by
  have h1 := small_wrap (a := (p : Int)) (by omega) (by omega)
  have h2 : (p : Int) + 1 - 1 = p := by omega
  rw [h2]
  exact h1

set_option maxHeartbeats 8000000 in
set_option maxRecDepth 100000 in
theorem roomKnown (g t : Int) {w : World} {v : Value} {l : List Do} (h : IsDos w v l) (hc : 60 < l.length ∨ t < 0 ∨ 1099511627775 < t) : Calls Try.prog 5 #[.int .u8 g, v, .int .i64 t] w (Yes w) := by
  obtain ⟨ao, cap, rfl, p1, p2⟩ := h.shape
  obtain ⟨N, hN⟩ : ∃ N, N = l.length := ⟨_, rfl⟩
  rw [← hN] at hc p1 ⊢
  clear h hN
  have hcases : decide ((60 : Int) < N) = true ∨ (decide ((60 : Int) < N) = false ∧ decide (t < 0) = true) ∨ (decide ((60 : Int) < N) = false ∧ decide (t < 0) = false ∧ decide (1099511627775 < t) = true) := by
    simp only [decide_eq_true_eq, decide_eq_false_iff_not]
    omega
  clear hc
  rcases hcases with d1 | ⟨d1, d2⟩ | ⟨d1, d2, d3⟩
  all_goals
    go_enter Try.func5, Try.ntmps5
    go_wp2_with fail
    refine (knownYes _).mono ?_
    rintro e w1 ⟨rfl, hb1⟩
    have HB := Lib.hid hb1
    clear hb1
    go_wp2_with fail
    go_ret
    exact ⟨rfl, HB.out⟩

set_option maxHeartbeats 16000000 in
set_option maxRecDepth 100000 in
theorem roomMain (g t : Int) {w : World} {v : Value} {l : List Do} (h : IsDos w v l) (hdb : ∀ d ∈ l, d.s.id ≤ 9223372036854775807) (g1 : 0 ≤ g) (g2 : g ≤ 255) (hl : l.length ≤ 60) (ht0 : 0 ≤ t) (ht1 : t ≤ 1099511627775) : Calls Try.prog 5 #[.int .u8 g, v, .int .i64 t] w (Yes w) := by
  have HN := Lib.hid (newYes (1 + g) w (by omega) (by omega))
  have HI0 := Lib.hid (Inv.new (n := 1 + g) (by omega) (by omega))
  obtain ⟨N, hN⟩ : ∃ N, N = l.length := ⟨_, rfl⟩
  have hC : ∀ i, i < N → ∃ b o cap, v = .slice (some ⟨b, o, none⟩) N cap ∧ b < w.heap.size ∧ N ≤ cap ∧ cap ≤ 9223372036854775807 ∧ (∀ j u, (doCells (l.getD i default))[j]? = some u → w.cell? ⟨b, o + i * 5 + j, none⟩ = some u) ∧ (l.getD i default).s.id ≤ 9223372036854775807 := by
    intro i hi
    obtain ⟨b, o, cap, h0, h1, h2, h3, h4⟩ := doAtV h (by omega)
    refine ⟨b, o, cap, by rw [hN]; exact h0, h3, by omega, h2, h4 i (by omega), hdb _ ?_⟩
    rw [List.getD_eq_getElem?_getD, List.getElem?_eq_getElem (by omega)]
    exact List.getElem_mem _
  obtain ⟨ao, cap, rfl, p1, p2⟩ := h.shape
  rw [← hN] at hl p1 hC ⊢
  have HC := Lib.hid hC
  have d1 : decide ((60 : Int) < N) = false := by simp; omega
  have d2 : decide (t < 0) = false := by simp; omega
  have d3 : decide (1099511627775 < t) = false := by simp; omega
  have hw1 : IntKind.i64.wrap (1 + g) = 1 + g := small_wrap (by omega) (by omega)
  clear h hN hC hdb
  go_enter Try.func5, Try.ntmps5
  go_wp2_with fail
  refine (HN.out).mono ?_
  rintro e w1 ⟨⟨bk, bm, rfl, hk, h1, h2⟩, hb1⟩
  have HK := Lib.hid hk
  have HB := Lib.hid hb1
  clear hk hb1
  go_wp2_with fail
  go_loopw [10, 11] (fun ov i wr => ∃ (k : Nat) (o : Bool) (up fr : List Step) (L : List Slot), k ≤ N ∧ i = .int .i64 k ∧ ov = .bool o ∧ Below w.heap.size w wr ∧ BookIs wr bk bm (1 + g) up fr L ∧ Inv (1 + g) up fr L ∧ UpOk (1 + g) up o ∧ ∀ x ∈ L, x.id ≤ 9223372036854775807) (fun _ i _ => N - (intOf i).toNat)
  case atStart => exact ⟨0, false, _, _, _, by omega, rfl, rfl, HB.out, HK.out, HI0.out, UpOk.new _, by simp⟩
  case round =>
    obtain ⟨k, o, up, fr, L, hk, rfl, rfl, hb, hbk, hI, hU, hM⟩ := hrel
    clear HK HB HI0
    have HB := Lib.hid hb
    have HI := Lib.hid hI
    have HU := Lib.hid hU
    have HM := Lib.hid hM
    by_cases hkN : k < N
    · obtain ⟨b, off, cap2, e0, hbw, hNc, hcap, hcell, hdi⟩ := HC.out k hkN
      cases e0
      obtain ⟨d, hd⟩ : ∃ d, d = l.getD k default := ⟨_, rfl⟩
      rw [← hd] at hcell hdi
      have hkk : (k : Int) < N := by omega
      have hcc : ∀ j u, (doCells d)[j]? = some u → wr.cell? ⟨b, off + k * 5 + j, none⟩ = some u := fun j u hu => (hb.cell (p := ⟨b, off + k * 5 + j, none⟩) hbw).trans (hcell j u hu)
      have q0 : wr.cell? ⟨b, off + k * 5, none⟩ = some (.int .i64 d.kind) := hcc 0 _ rfl
      have q1 := hcc 1 _ rfl
      have q2 := hcc 2 _ rfl
      have q3 := hcc 3 _ rfl
      have q4 := hcc 4 _ rfl
      have HD := Lib.hid (doneAny hbk hI d)
      unfold doV at HD
      clear hcell hcc hb hbk hI hd hU hM
      go_wp2_with fail
      refine (HD.out).mono ?_
      rintro e w2 ⟨u, ids, err, up2, fr2, L2, rfl, hv2, hd2, hk2, hK2⟩
      have hb2 := HB.out.trans (hK2.below h1 h2 HB.out.size)
      have hI2 := hd2.inv HI.out
      have hU2 := hd2.up HI.out HU.out
      have hM2 := hd2.ids_le HM.out hdi
      have r0 : w2.cell? ⟨b, off + k * 5, none⟩ = some (.int .i64 d.kind) := (hb2.cell (p := ⟨b, off + k * 5, none⟩) hbw).trans ((HB.out.cell (p := ⟨b, off + k * 5, none⟩) hbw).symm.trans q0)
      have HB2 := Lib.hid hb2
      have HK2 := Lib.hid hk2
      have HI2 := Lib.hid hI2
      have HM2 := Lib.hid hM2
      clear hv2 hd2 hk2 hK2 hb2 hI2 hM2 q0 q1 q2 q3 q4
      have hcs : ∃ o2, UpOk (1 + g) up2 o2 ∧ ((o = true ∧ o2 = true) ∨ (o = false ∧ (d.kind == 5) = false ∧ o2 = false) ∨ (o = false ∧ (d.kind == 5) = true ∧ (err == 0) = false ∧ o2 = false) ∨ (o = false ∧ (d.kind == 5) = true ∧ (err == 0) = true ∧ o2 = true)) := by
        refine ⟨_, hU2, ?_⟩
        cases o
        · by_cases c1 : d.kind = 5
          · by_cases c2 : err = 0
            · simp [c1, c2]
            · simp [c1, c2]
          · simp [c1]
        · simp
      clear hU2
      obtain ⟨o2, hU2, hcs⟩ := hcs
      have HU2 := Lib.hid hU2
      clear hU2
      generalize d.kind = kd at *
      rcases hcs with ⟨rfl, rfl⟩ | ⟨rfl, c1, rfl⟩ | ⟨rfl, c1, c2, rfl⟩ | ⟨rfl, c1, c2, rfl⟩
      · have HSL := Lib.hid (slotsAny HK2.out (fun s hs => ⟨(right_iff.1 (HI2.out.rt s hs)).1, HM2.out s hs⟩) HI2.out.len)
        go_wp2_with fail
        refine (HSL.out).mono ?_
        rintro e w3 ⟨v3, S, rfl, hso, hv3, hb3⟩
        have HSO := Lib.hid hso
        have HV3 := Lib.hid hv3.is
        have HK3 := Lib.hid (HK2.out.below hb3)
        have HB3 := Lib.hid (HB2.out.trans (hb3.mono HB2.out.size))
        have HST := Lib.hid (stepsAny (HK2.out.below hb3) (by have := HI2.out.flen; omega))
        obtain ⟨ao3, cp3, rfl, hc3, hc4⟩ := hv3.is.shape
        clear hso hv3 hb3
        go_wp2_with fail
        refine (HST.out).mono ?_
        rintro e w4 ⟨⟨v4, rfl, hv4⟩, hb4⟩
        have HAT := Lib.hid (atAny hv4.is t)
        have HV4 := Lib.hid (HV3.out.below hb4)
        have HK4 := Lib.hid (HK3.out.below hb4)
        have HB4 := Lib.hid (HB3.out.trans (hb4.mono HB3.out.size))
        have hr := atOf_range HI2.out.vf t
        generalize hat : atOf fr2 t = at0 at *
        have HA := Lib.hid hat
        clear hv4 hb4 hat
        go_wp2_with fail
        refine (HAT.out).mono ?_
        rintro e w5 ⟨rfl, hb5⟩
        have HV5 := Lib.hid (HV4.out.below hb5)
        have HK5 := Lib.hid (HK4.out.below hb5)
        have HB5 := Lib.hid (HB4.out.trans (hb5.mono HB4.out.size))
        clear hb5
        obtain ⟨M, hMl⟩ : ∃ M, M = S.length := ⟨_, rfl⟩
        rw [← hMl] at hc3 ⊢
        have HML := Lib.hid hMl
        have hM9 : M ≤ 9000 := by
          have h3 := HSO.out.len
          have h4 := HI2.out.len
          omega
        clear hMl
        go_wp2_with fail
        go_loopw [15, 16] (fun kv j wr => ∃ q : Nat, q ≤ M ∧ j = .int .i64 q ∧ kv = .int .i64 (at0 + loadOf (S.take q) t) ∧ Below w5.heap.size w5 wr) (fun _ j _ => M - (intOf j).toNat)
        case atStart => exact ⟨0, by omega, rfl, by simp [loadOf], Below.refl _ _⟩
        case round =>
          obtain ⟨q, hq, rfl, rfl, hb6⟩ := hrel
          have HB6 := Lib.hid hb6
          by_cases hqM : q < M
          · obtain ⟨b3, o3, c3, e3, _, _, hbb, hsl⟩ := slotAtV HV5.out (by rw [← HML.out]; omega)
            obtain ⟨x1, x2, x3, x4, hx, y1, y2, y3, y4⟩ := hsl q (by rw [← HML.out]; exact hqM)
            have hprev : 0 < q → ∃ z1, z1 < x1 ∧ wr.cell? ⟨b3, o3 + (q - 1) * 4, none⟩ = some (.int .i64 z1) := by
              intro h0
              obtain ⟨z1, z2, z3, z4, hz, m1, _, _, _⟩ := hsl (q - 1) (by rw [← HML.out]; omega)
              refine ⟨z1, ?_, (hb6.cell (p := ⟨b3, o3 + (q - 1) * 4, none⟩) hbb).trans m1⟩
              have hlt := List.pairwise_iff_getElem.1 (HSO.out.lt HI2.out.ids) (q - 1) q (by rw [← HML.out]; omega) (by rw [← HML.out]; omega) (by omega)
              rw [List.getD_eq_getElem?_getD, List.getElem?_eq_getElem (by rw [← HML.out]; omega)] at hx hz
              simp only [Option.getD_some] at hx hz
              rw [hx, hz] at hlt
              exact hlt
            cases e3
            have k1 : wr.cell? ⟨b3, o3 + q * 4, none⟩ = some (.int .i64 x1) := (hb6.cell (p := ⟨b3, o3 + q * 4, none⟩) hbb).trans y1
            have k2 : wr.cell? ⟨b3, o3 + q * 4 + 1, none⟩ = some (.int .i64 x2) := (hb6.cell (p := ⟨b3, o3 + q * 4 + 1, none⟩) hbb).trans y2
            have k3 : wr.cell? ⟨b3, o3 + q * 4 + 2, none⟩ = some (.int .i64 x3) := (hb6.cell (p := ⟨b3, o3 + q * 4 + 2, none⟩) hbb).trans y3
            have k4 : wr.cell? ⟨b3, o3 + q * 4 + 3, none⟩ = some (.int .i64 x4) := (hb6.cell (p := ⟨b3, o3 + q * 4 + 3, none⟩) hbb).trans y4
            have hnn : ∀ s ∈ S, 1 ≤ s.nodes ∧ s.nodes ≤ 10000 := fun s hs => HI2.out.nodes s (HSO.out.1.subset hs)
            have hx4 : 1 ≤ x4 ∧ x4 ≤ 10000 := by
              have hqS : q < S.length := by rw [← HML.out]; exact hqM
              have h5 := hnn S[q] (List.getElem_mem hqS)
              rw [List.getD_eq_getElem?_getD, List.getElem?_eq_getElem hqS] at hx
              simp only [Option.getD_some] at hx
              rw [hx] at h5
              exact h5
            have hlb := loadOf_bound (L := S.take q) (fun s hs => hnn s ((List.take_subset q S) hs)) t
            have hlq : (S.take q).length ≤ 9000 := by simp; omega
            have hnx := loadOf_take (S := S) (j := q) (by rw [← HML.out]; exact hqM) t
            rw [hx] at hnx
            obtain ⟨c, hnx, hcov⟩ : ∃ c, loadOf (S.take (q + 1)) t = loadOf (S.take q) t + c ∧ ((decide (x2 ≤ t) = false ∧ c = 0) ∨ (decide (x2 ≤ t) = true ∧ decide (t < x3) = false ∧ c = 0) ∨ (decide (x2 ≤ t) = true ∧ decide (t < x3) = true ∧ c = x4)) := by
              refine ⟨_, hnx, ?_⟩
              unfold covS
              simp only [decide_eq_true_eq, decide_eq_false_iff_not]
              split <;> omega
            generalize hlo : loadOf (S.take q) t = lo at *
            have HLO := Lib.hid hlo
            have hw2 : IntKind.i64.wrap (at0 + lo + x4) = at0 + lo + x4 := small_wrap (by omega) (by omega)
            have hqq : (q : Int) < M := by omega
            have HNX := Lib.hid hnx
            clear y1 y2 y3 y4 hsl hnn hx hlb hlq hnx hlo hb6
            by_cases hq0 : q = 0
            · subst hq0
              clear hprev
              rcases hcov with ⟨c3, rfl⟩ | ⟨c3, c4, rfl⟩ | ⟨c3, c4, rfl⟩
              all_goals
                go_wp2_with fail
                go_quiet (fail)
                go_wp2_with fail
                go_roundw
                case rel => exact ⟨0 + 1, by omega, by go_num, by rw [HNX.out]; go_num, below_drewN HB6.out _⟩
                case measure => simp [intOf]; omega
            · obtain ⟨z1, hz1, k5⟩ := hprev (by omega)
              obtain ⟨p, rfl⟩ : ∃ p, q = p + 1 := ⟨q - 1, by omega⟩
              simp only [Nat.add_sub_cancel] at k5
              have hz2 : decide (x1 ≤ z1) = false := by simp; omega
              have hp0 : decide ((0 : Int) < (p : Int) + 1) = true := by rw [decide_eq_true_iff]; omega
              have hwp : IntKind.i64.wrap ((p : Int) + 1 - 1) = p := pred_wrap (by omega)
              clear hz1 hprev hq0
              rcases hcov with ⟨c3, rfl⟩ | ⟨c3, c4, rfl⟩ | ⟨c3, c4, rfl⟩
              all_goals
                go_wp2_with fail
                go_quiet (fail)
                go_wp2_with fail
                go_roundw
                case rel => exact ⟨p + 1 + 1, by omega, by go_num, by rw [HNX.out]; go_num, below_drewN HB6.out _⟩
                case measure => simp [intOf]; omega
          · obtain rfl : q = M := by omega
            have hd5 : decide ((q : Int) < q) = false := by simp
            have hall : S.take q = S := by rw [HML.out, List.take_length]
            rw [hall]
            have HST2 := Lib.hid (stepsAny (HK5.out.below hb6) (by have := HI2.out.flen; omega))
            have HB7 := Lib.hid (HB5.out.trans (hb6.mono HB5.out.size))
            have HK7 := Lib.hid (HK5.out.below hb6)
            have hsum : at0 + loadOf S t = val up2 t := by
              rw [← HA.out, atOf_val HI2.out.vf ht0 ht1, HI2.out.eq t ht0, loadOf_perm HSO.out.1]
              omega
            have hle := HU2.out.1 t ht0
            have hfin := HU2.out.2
            rw [hsum]
            have hval1 : ∀ h : up2 = [⟨0, 1 + g⟩], val up2 t = 1 + g := by
              intro h
              rw [h]
              unfold val plc
              simp [plcN, frv]
            have hne : true = false → (val up2 t != 1 + g) = false := by
              intro ho
              have := hval1 (hfin ho)
              simpa using this
            generalize val up2 t = vv at *
            have hgt : decide (1 + g < vv) = false := by simp; omega
            clear hsum hall hb6 hle hfin hval1
            clear hne
            go_wp2_with fail
            refine (HST2.out).mono ?_
            rintro e w8 ⟨⟨v8, rfl, hv8⟩, hb8⟩
            have HCK := Lib.hid (checkT hv8.is (chk_iff.2 HI2.out.vf))
            have HB8 := Lib.hid (HB7.out.trans (hb8.mono HB7.out.size))
            have HK8 := Lib.hid (HK7.out.below hb8)
            clear hv8 hb8
            go_wp2_with fail
            refine (HCK.out).mono ?_
            rintro e w9 ⟨rfl, hb9⟩
            have HB9 := Lib.hid (HB8.out.trans (hb9.mono HB8.out.size))
            have HK9 := Lib.hid (HK8.out.below hb9)
            clear hb9
            go_wp2_with fail
            go_roundw
            case rel => exact ⟨k + 1, true, up2, fr2, L2, by omega, by go_num, rfl, HB9.out, HK9.out, HI2.out, HU2.out, HM2.out⟩
            case measure => simp [intOf]; omega
      · have HSL := Lib.hid (slotsAny HK2.out (fun s hs => ⟨(right_iff.1 (HI2.out.rt s hs)).1, HM2.out s hs⟩) HI2.out.len)
        go_wp2_with fail
        refine (HSL.out).mono ?_
        rintro e w3 ⟨v3, S, rfl, hso, hv3, hb3⟩
        have HSO := Lib.hid hso
        have HV3 := Lib.hid hv3.is
        have HK3 := Lib.hid (HK2.out.below hb3)
        have HB3 := Lib.hid (HB2.out.trans (hb3.mono HB2.out.size))
        have HST := Lib.hid (stepsAny (HK2.out.below hb3) (by have := HI2.out.flen; omega))
        obtain ⟨ao3, cp3, rfl, hc3, hc4⟩ := hv3.is.shape
        clear hso hv3 hb3
        go_wp2_with fail
        refine (HST.out).mono ?_
        rintro e w4 ⟨⟨v4, rfl, hv4⟩, hb4⟩
        have HAT := Lib.hid (atAny hv4.is t)
        have HV4 := Lib.hid (HV3.out.below hb4)
        have HK4 := Lib.hid (HK3.out.below hb4)
        have HB4 := Lib.hid (HB3.out.trans (hb4.mono HB3.out.size))
        have hr := atOf_range HI2.out.vf t
        generalize hat : atOf fr2 t = at0 at *
        have HA := Lib.hid hat
        clear hv4 hb4 hat
        go_wp2_with fail
        refine (HAT.out).mono ?_
        rintro e w5 ⟨rfl, hb5⟩
        have HV5 := Lib.hid (HV4.out.below hb5)
        have HK5 := Lib.hid (HK4.out.below hb5)
        have HB5 := Lib.hid (HB4.out.trans (hb5.mono HB4.out.size))
        clear hb5
        obtain ⟨M, hMl⟩ : ∃ M, M = S.length := ⟨_, rfl⟩
        rw [← hMl] at hc3 ⊢
        have HML := Lib.hid hMl
        have hM9 : M ≤ 9000 := by
          have h3 := HSO.out.len
          have h4 := HI2.out.len
          omega
        clear hMl
        go_wp2_with fail
        go_loopw [15, 16] (fun kv j wr => ∃ q : Nat, q ≤ M ∧ j = .int .i64 q ∧ kv = .int .i64 (at0 + loadOf (S.take q) t) ∧ Below w5.heap.size w5 wr) (fun _ j _ => M - (intOf j).toNat)
        case atStart => exact ⟨0, by omega, rfl, by simp [loadOf], Below.refl _ _⟩
        case round =>
          obtain ⟨q, hq, rfl, rfl, hb6⟩ := hrel
          have HB6 := Lib.hid hb6
          by_cases hqM : q < M
          · obtain ⟨b3, o3, c3, e3, _, _, hbb, hsl⟩ := slotAtV HV5.out (by rw [← HML.out]; omega)
            obtain ⟨x1, x2, x3, x4, hx, y1, y2, y3, y4⟩ := hsl q (by rw [← HML.out]; exact hqM)
            have hprev : 0 < q → ∃ z1, z1 < x1 ∧ wr.cell? ⟨b3, o3 + (q - 1) * 4, none⟩ = some (.int .i64 z1) := by
              intro h0
              obtain ⟨z1, z2, z3, z4, hz, m1, _, _, _⟩ := hsl (q - 1) (by rw [← HML.out]; omega)
              refine ⟨z1, ?_, (hb6.cell (p := ⟨b3, o3 + (q - 1) * 4, none⟩) hbb).trans m1⟩
              have hlt := List.pairwise_iff_getElem.1 (HSO.out.lt HI2.out.ids) (q - 1) q (by rw [← HML.out]; omega) (by rw [← HML.out]; omega) (by omega)
              rw [List.getD_eq_getElem?_getD, List.getElem?_eq_getElem (by rw [← HML.out]; omega)] at hx hz
              simp only [Option.getD_some] at hx hz
              rw [hx, hz] at hlt
              exact hlt
            cases e3
            have k1 : wr.cell? ⟨b3, o3 + q * 4, none⟩ = some (.int .i64 x1) := (hb6.cell (p := ⟨b3, o3 + q * 4, none⟩) hbb).trans y1
            have k2 : wr.cell? ⟨b3, o3 + q * 4 + 1, none⟩ = some (.int .i64 x2) := (hb6.cell (p := ⟨b3, o3 + q * 4 + 1, none⟩) hbb).trans y2
            have k3 : wr.cell? ⟨b3, o3 + q * 4 + 2, none⟩ = some (.int .i64 x3) := (hb6.cell (p := ⟨b3, o3 + q * 4 + 2, none⟩) hbb).trans y3
            have k4 : wr.cell? ⟨b3, o3 + q * 4 + 3, none⟩ = some (.int .i64 x4) := (hb6.cell (p := ⟨b3, o3 + q * 4 + 3, none⟩) hbb).trans y4
            have hnn : ∀ s ∈ S, 1 ≤ s.nodes ∧ s.nodes ≤ 10000 := fun s hs => HI2.out.nodes s (HSO.out.1.subset hs)
            have hx4 : 1 ≤ x4 ∧ x4 ≤ 10000 := by
              have hqS : q < S.length := by rw [← HML.out]; exact hqM
              have h5 := hnn S[q] (List.getElem_mem hqS)
              rw [List.getD_eq_getElem?_getD, List.getElem?_eq_getElem hqS] at hx
              simp only [Option.getD_some] at hx
              rw [hx] at h5
              exact h5
            have hlb := loadOf_bound (L := S.take q) (fun s hs => hnn s ((List.take_subset q S) hs)) t
            have hlq : (S.take q).length ≤ 9000 := by simp; omega
            have hnx := loadOf_take (S := S) (j := q) (by rw [← HML.out]; exact hqM) t
            rw [hx] at hnx
            obtain ⟨c, hnx, hcov⟩ : ∃ c, loadOf (S.take (q + 1)) t = loadOf (S.take q) t + c ∧ ((decide (x2 ≤ t) = false ∧ c = 0) ∨ (decide (x2 ≤ t) = true ∧ decide (t < x3) = false ∧ c = 0) ∨ (decide (x2 ≤ t) = true ∧ decide (t < x3) = true ∧ c = x4)) := by
              refine ⟨_, hnx, ?_⟩
              unfold covS
              simp only [decide_eq_true_eq, decide_eq_false_iff_not]
              split <;> omega
            generalize hlo : loadOf (S.take q) t = lo at *
            have HLO := Lib.hid hlo
            have hw2 : IntKind.i64.wrap (at0 + lo + x4) = at0 + lo + x4 := small_wrap (by omega) (by omega)
            have hqq : (q : Int) < M := by omega
            have HNX := Lib.hid hnx
            clear y1 y2 y3 y4 hsl hnn hx hlb hlq hnx hlo hb6
            by_cases hq0 : q = 0
            · subst hq0
              clear hprev
              rcases hcov with ⟨c3, rfl⟩ | ⟨c3, c4, rfl⟩ | ⟨c3, c4, rfl⟩
              all_goals
                go_wp2_with fail
                go_quiet (fail)
                go_wp2_with fail
                go_roundw
                case rel => exact ⟨0 + 1, by omega, by go_num, by rw [HNX.out]; go_num, below_drewN HB6.out _⟩
                case measure => simp [intOf]; omega
            · obtain ⟨z1, hz1, k5⟩ := hprev (by omega)
              obtain ⟨p, rfl⟩ : ∃ p, q = p + 1 := ⟨q - 1, by omega⟩
              simp only [Nat.add_sub_cancel] at k5
              have hz2 : decide (x1 ≤ z1) = false := by simp; omega
              have hp0 : decide ((0 : Int) < (p : Int) + 1) = true := by rw [decide_eq_true_iff]; omega
              have hwp : IntKind.i64.wrap ((p : Int) + 1 - 1) = p := pred_wrap (by omega)
              clear hz1 hprev hq0
              rcases hcov with ⟨c3, rfl⟩ | ⟨c3, c4, rfl⟩ | ⟨c3, c4, rfl⟩
              all_goals
                go_wp2_with fail
                go_quiet (fail)
                go_wp2_with fail
                go_roundw
                case rel => exact ⟨p + 1 + 1, by omega, by go_num, by rw [HNX.out]; go_num, below_drewN HB6.out _⟩
                case measure => simp [intOf]; omega
          · obtain rfl : q = M := by omega
            have hd5 : decide ((q : Int) < q) = false := by simp
            have hall : S.take q = S := by rw [HML.out, List.take_length]
            rw [hall]
            have HST2 := Lib.hid (stepsAny (HK5.out.below hb6) (by have := HI2.out.flen; omega))
            have HB7 := Lib.hid (HB5.out.trans (hb6.mono HB5.out.size))
            have HK7 := Lib.hid (HK5.out.below hb6)
            have hsum : at0 + loadOf S t = val up2 t := by
              rw [← HA.out, atOf_val HI2.out.vf ht0 ht1, HI2.out.eq t ht0, loadOf_perm HSO.out.1]
              omega
            have hle := HU2.out.1 t ht0
            have hfin := HU2.out.2
            rw [hsum]
            have hval1 : ∀ h : up2 = [⟨0, 1 + g⟩], val up2 t = 1 + g := by
              intro h
              rw [h]
              unfold val plc
              simp [plcN, frv]
            have hne : false = false → (val up2 t != 1 + g) = false := by
              intro ho
              have := hval1 (hfin ho)
              simpa using this
            generalize val up2 t = vv at *
            have hgt : decide (1 + g < vv) = false := by simp; omega
            clear hsum hall hb6 hle hfin hval1
            have hne := hne rfl
            go_wp2_with fail
            refine (HST2.out).mono ?_
            rintro e w8 ⟨⟨v8, rfl, hv8⟩, hb8⟩
            have HCK := Lib.hid (checkT hv8.is (chk_iff.2 HI2.out.vf))
            have HB8 := Lib.hid (HB7.out.trans (hb8.mono HB7.out.size))
            have HK8 := Lib.hid (HK7.out.below hb8)
            clear hv8 hb8
            go_wp2_with fail
            refine (HCK.out).mono ?_
            rintro e w9 ⟨rfl, hb9⟩
            have HB9 := Lib.hid (HB8.out.trans (hb9.mono HB8.out.size))
            have HK9 := Lib.hid (HK8.out.below hb9)
            clear hb9
            go_wp2_with fail
            go_roundw
            case rel => exact ⟨k + 1, false, up2, fr2, L2, by omega, by go_num, rfl, HB9.out, HK9.out, HI2.out, HU2.out, HM2.out⟩
            case measure => simp [intOf]; omega
      · have HSL := Lib.hid (slotsAny HK2.out (fun s hs => ⟨(right_iff.1 (HI2.out.rt s hs)).1, HM2.out s hs⟩) HI2.out.len)
        go_wp2_with fail
        refine (HSL.out).mono ?_
        rintro e w3 ⟨v3, S, rfl, hso, hv3, hb3⟩
        have HSO := Lib.hid hso
        have HV3 := Lib.hid hv3.is
        have HK3 := Lib.hid (HK2.out.below hb3)
        have HB3 := Lib.hid (HB2.out.trans (hb3.mono HB2.out.size))
        have HST := Lib.hid (stepsAny (HK2.out.below hb3) (by have := HI2.out.flen; omega))
        obtain ⟨ao3, cp3, rfl, hc3, hc4⟩ := hv3.is.shape
        clear hso hv3 hb3
        go_wp2_with fail
        refine (HST.out).mono ?_
        rintro e w4 ⟨⟨v4, rfl, hv4⟩, hb4⟩
        have HAT := Lib.hid (atAny hv4.is t)
        have HV4 := Lib.hid (HV3.out.below hb4)
        have HK4 := Lib.hid (HK3.out.below hb4)
        have HB4 := Lib.hid (HB3.out.trans (hb4.mono HB3.out.size))
        have hr := atOf_range HI2.out.vf t
        generalize hat : atOf fr2 t = at0 at *
        have HA := Lib.hid hat
        clear hv4 hb4 hat
        go_wp2_with fail
        refine (HAT.out).mono ?_
        rintro e w5 ⟨rfl, hb5⟩
        have HV5 := Lib.hid (HV4.out.below hb5)
        have HK5 := Lib.hid (HK4.out.below hb5)
        have HB5 := Lib.hid (HB4.out.trans (hb5.mono HB4.out.size))
        clear hb5
        obtain ⟨M, hMl⟩ : ∃ M, M = S.length := ⟨_, rfl⟩
        rw [← hMl] at hc3 ⊢
        have HML := Lib.hid hMl
        have hM9 : M ≤ 9000 := by
          have h3 := HSO.out.len
          have h4 := HI2.out.len
          omega
        clear hMl
        go_wp2_with fail
        go_loopw [15, 16] (fun kv j wr => ∃ q : Nat, q ≤ M ∧ j = .int .i64 q ∧ kv = .int .i64 (at0 + loadOf (S.take q) t) ∧ Below w5.heap.size w5 wr) (fun _ j _ => M - (intOf j).toNat)
        case atStart => exact ⟨0, by omega, rfl, by simp [loadOf], Below.refl _ _⟩
        case round =>
          obtain ⟨q, hq, rfl, rfl, hb6⟩ := hrel
          have HB6 := Lib.hid hb6
          by_cases hqM : q < M
          · obtain ⟨b3, o3, c3, e3, _, _, hbb, hsl⟩ := slotAtV HV5.out (by rw [← HML.out]; omega)
            obtain ⟨x1, x2, x3, x4, hx, y1, y2, y3, y4⟩ := hsl q (by rw [← HML.out]; exact hqM)
            have hprev : 0 < q → ∃ z1, z1 < x1 ∧ wr.cell? ⟨b3, o3 + (q - 1) * 4, none⟩ = some (.int .i64 z1) := by
              intro h0
              obtain ⟨z1, z2, z3, z4, hz, m1, _, _, _⟩ := hsl (q - 1) (by rw [← HML.out]; omega)
              refine ⟨z1, ?_, (hb6.cell (p := ⟨b3, o3 + (q - 1) * 4, none⟩) hbb).trans m1⟩
              have hlt := List.pairwise_iff_getElem.1 (HSO.out.lt HI2.out.ids) (q - 1) q (by rw [← HML.out]; omega) (by rw [← HML.out]; omega) (by omega)
              rw [List.getD_eq_getElem?_getD, List.getElem?_eq_getElem (by rw [← HML.out]; omega)] at hx hz
              simp only [Option.getD_some] at hx hz
              rw [hx, hz] at hlt
              exact hlt
            cases e3
            have k1 : wr.cell? ⟨b3, o3 + q * 4, none⟩ = some (.int .i64 x1) := (hb6.cell (p := ⟨b3, o3 + q * 4, none⟩) hbb).trans y1
            have k2 : wr.cell? ⟨b3, o3 + q * 4 + 1, none⟩ = some (.int .i64 x2) := (hb6.cell (p := ⟨b3, o3 + q * 4 + 1, none⟩) hbb).trans y2
            have k3 : wr.cell? ⟨b3, o3 + q * 4 + 2, none⟩ = some (.int .i64 x3) := (hb6.cell (p := ⟨b3, o3 + q * 4 + 2, none⟩) hbb).trans y3
            have k4 : wr.cell? ⟨b3, o3 + q * 4 + 3, none⟩ = some (.int .i64 x4) := (hb6.cell (p := ⟨b3, o3 + q * 4 + 3, none⟩) hbb).trans y4
            have hnn : ∀ s ∈ S, 1 ≤ s.nodes ∧ s.nodes ≤ 10000 := fun s hs => HI2.out.nodes s (HSO.out.1.subset hs)
            have hx4 : 1 ≤ x4 ∧ x4 ≤ 10000 := by
              have hqS : q < S.length := by rw [← HML.out]; exact hqM
              have h5 := hnn S[q] (List.getElem_mem hqS)
              rw [List.getD_eq_getElem?_getD, List.getElem?_eq_getElem hqS] at hx
              simp only [Option.getD_some] at hx
              rw [hx] at h5
              exact h5
            have hlb := loadOf_bound (L := S.take q) (fun s hs => hnn s ((List.take_subset q S) hs)) t
            have hlq : (S.take q).length ≤ 9000 := by simp; omega
            have hnx := loadOf_take (S := S) (j := q) (by rw [← HML.out]; exact hqM) t
            rw [hx] at hnx
            obtain ⟨c, hnx, hcov⟩ : ∃ c, loadOf (S.take (q + 1)) t = loadOf (S.take q) t + c ∧ ((decide (x2 ≤ t) = false ∧ c = 0) ∨ (decide (x2 ≤ t) = true ∧ decide (t < x3) = false ∧ c = 0) ∨ (decide (x2 ≤ t) = true ∧ decide (t < x3) = true ∧ c = x4)) := by
              refine ⟨_, hnx, ?_⟩
              unfold covS
              simp only [decide_eq_true_eq, decide_eq_false_iff_not]
              split <;> omega
            generalize hlo : loadOf (S.take q) t = lo at *
            have HLO := Lib.hid hlo
            have hw2 : IntKind.i64.wrap (at0 + lo + x4) = at0 + lo + x4 := small_wrap (by omega) (by omega)
            have hqq : (q : Int) < M := by omega
            have HNX := Lib.hid hnx
            clear y1 y2 y3 y4 hsl hnn hx hlb hlq hnx hlo hb6
            by_cases hq0 : q = 0
            · subst hq0
              clear hprev
              rcases hcov with ⟨c3, rfl⟩ | ⟨c3, c4, rfl⟩ | ⟨c3, c4, rfl⟩
              all_goals
                go_wp2_with fail
                go_quiet (fail)
                go_wp2_with fail
                go_roundw
                case rel => exact ⟨0 + 1, by omega, by go_num, by rw [HNX.out]; go_num, below_drewN HB6.out _⟩
                case measure => simp [intOf]; omega
            · obtain ⟨z1, hz1, k5⟩ := hprev (by omega)
              obtain ⟨p, rfl⟩ : ∃ p, q = p + 1 := ⟨q - 1, by omega⟩
              simp only [Nat.add_sub_cancel] at k5
              have hz2 : decide (x1 ≤ z1) = false := by simp; omega
              have hp0 : decide ((0 : Int) < (p : Int) + 1) = true := by rw [decide_eq_true_iff]; omega
              have hwp : IntKind.i64.wrap ((p : Int) + 1 - 1) = p := pred_wrap (by omega)
              clear hz1 hprev hq0
              rcases hcov with ⟨c3, rfl⟩ | ⟨c3, c4, rfl⟩ | ⟨c3, c4, rfl⟩
              all_goals
                go_wp2_with fail
                go_quiet (fail)
                go_wp2_with fail
                go_roundw
                case rel => exact ⟨p + 1 + 1, by omega, by go_num, by rw [HNX.out]; go_num, below_drewN HB6.out _⟩
                case measure => simp [intOf]; omega
          · obtain rfl : q = M := by omega
            have hd5 : decide ((q : Int) < q) = false := by simp
            have hall : S.take q = S := by rw [HML.out, List.take_length]
            rw [hall]
            have HST2 := Lib.hid (stepsAny (HK5.out.below hb6) (by have := HI2.out.flen; omega))
            have HB7 := Lib.hid (HB5.out.trans (hb6.mono HB5.out.size))
            have HK7 := Lib.hid (HK5.out.below hb6)
            have hsum : at0 + loadOf S t = val up2 t := by
              rw [← HA.out, atOf_val HI2.out.vf ht0 ht1, HI2.out.eq t ht0, loadOf_perm HSO.out.1]
              omega
            have hle := HU2.out.1 t ht0
            have hfin := HU2.out.2
            rw [hsum]
            have hval1 : ∀ h : up2 = [⟨0, 1 + g⟩], val up2 t = 1 + g := by
              intro h
              rw [h]
              unfold val plc
              simp [plcN, frv]
            have hne : false = false → (val up2 t != 1 + g) = false := by
              intro ho
              have := hval1 (hfin ho)
              simpa using this
            generalize val up2 t = vv at *
            have hgt : decide (1 + g < vv) = false := by simp; omega
            clear hsum hall hb6 hle hfin hval1
            have hne := hne rfl
            go_wp2_with fail
            refine (HST2.out).mono ?_
            rintro e w8 ⟨⟨v8, rfl, hv8⟩, hb8⟩
            have HCK := Lib.hid (checkT hv8.is (chk_iff.2 HI2.out.vf))
            have HB8 := Lib.hid (HB7.out.trans (hb8.mono HB7.out.size))
            have HK8 := Lib.hid (HK7.out.below hb8)
            clear hv8 hb8
            go_wp2_with fail
            refine (HCK.out).mono ?_
            rintro e w9 ⟨rfl, hb9⟩
            have HB9 := Lib.hid (HB8.out.trans (hb9.mono HB8.out.size))
            have HK9 := Lib.hid (HK8.out.below hb9)
            clear hb9
            go_wp2_with fail
            go_roundw
            case rel => exact ⟨k + 1, false, up2, fr2, L2, by omega, by go_num, rfl, HB9.out, HK9.out, HI2.out, HU2.out, HM2.out⟩
            case measure => simp [intOf]; omega
      · have HSL := Lib.hid (slotsAny HK2.out (fun s hs => ⟨(right_iff.1 (HI2.out.rt s hs)).1, HM2.out s hs⟩) HI2.out.len)
        go_wp2_with fail
        refine (HSL.out).mono ?_
        rintro e w3 ⟨v3, S, rfl, hso, hv3, hb3⟩
        have HSO := Lib.hid hso
        have HV3 := Lib.hid hv3.is
        have HK3 := Lib.hid (HK2.out.below hb3)
        have HB3 := Lib.hid (HB2.out.trans (hb3.mono HB2.out.size))
        have HST := Lib.hid (stepsAny (HK2.out.below hb3) (by have := HI2.out.flen; omega))
        obtain ⟨ao3, cp3, rfl, hc3, hc4⟩ := hv3.is.shape
        clear hso hv3 hb3
        go_wp2_with fail
        refine (HST.out).mono ?_
        rintro e w4 ⟨⟨v4, rfl, hv4⟩, hb4⟩
        have HAT := Lib.hid (atAny hv4.is t)
        have HV4 := Lib.hid (HV3.out.below hb4)
        have HK4 := Lib.hid (HK3.out.below hb4)
        have HB4 := Lib.hid (HB3.out.trans (hb4.mono HB3.out.size))
        have hr := atOf_range HI2.out.vf t
        generalize hat : atOf fr2 t = at0 at *
        have HA := Lib.hid hat
        clear hv4 hb4 hat
        go_wp2_with fail
        refine (HAT.out).mono ?_
        rintro e w5 ⟨rfl, hb5⟩
        have HV5 := Lib.hid (HV4.out.below hb5)
        have HK5 := Lib.hid (HK4.out.below hb5)
        have HB5 := Lib.hid (HB4.out.trans (hb5.mono HB4.out.size))
        clear hb5
        obtain ⟨M, hMl⟩ : ∃ M, M = S.length := ⟨_, rfl⟩
        rw [← hMl] at hc3 ⊢
        have HML := Lib.hid hMl
        have hM9 : M ≤ 9000 := by
          have h3 := HSO.out.len
          have h4 := HI2.out.len
          omega
        clear hMl
        go_wp2_with fail
        go_loopw [15, 16] (fun kv j wr => ∃ q : Nat, q ≤ M ∧ j = .int .i64 q ∧ kv = .int .i64 (at0 + loadOf (S.take q) t) ∧ Below w5.heap.size w5 wr) (fun _ j _ => M - (intOf j).toNat)
        case atStart => exact ⟨0, by omega, rfl, by simp [loadOf], Below.refl _ _⟩
        case round =>
          obtain ⟨q, hq, rfl, rfl, hb6⟩ := hrel
          have HB6 := Lib.hid hb6
          by_cases hqM : q < M
          · obtain ⟨b3, o3, c3, e3, _, _, hbb, hsl⟩ := slotAtV HV5.out (by rw [← HML.out]; omega)
            obtain ⟨x1, x2, x3, x4, hx, y1, y2, y3, y4⟩ := hsl q (by rw [← HML.out]; exact hqM)
            have hprev : 0 < q → ∃ z1, z1 < x1 ∧ wr.cell? ⟨b3, o3 + (q - 1) * 4, none⟩ = some (.int .i64 z1) := by
              intro h0
              obtain ⟨z1, z2, z3, z4, hz, m1, _, _, _⟩ := hsl (q - 1) (by rw [← HML.out]; omega)
              refine ⟨z1, ?_, (hb6.cell (p := ⟨b3, o3 + (q - 1) * 4, none⟩) hbb).trans m1⟩
              have hlt := List.pairwise_iff_getElem.1 (HSO.out.lt HI2.out.ids) (q - 1) q (by rw [← HML.out]; omega) (by rw [← HML.out]; omega) (by omega)
              rw [List.getD_eq_getElem?_getD, List.getElem?_eq_getElem (by rw [← HML.out]; omega)] at hx hz
              simp only [Option.getD_some] at hx hz
              rw [hx, hz] at hlt
              exact hlt
            cases e3
            have k1 : wr.cell? ⟨b3, o3 + q * 4, none⟩ = some (.int .i64 x1) := (hb6.cell (p := ⟨b3, o3 + q * 4, none⟩) hbb).trans y1
            have k2 : wr.cell? ⟨b3, o3 + q * 4 + 1, none⟩ = some (.int .i64 x2) := (hb6.cell (p := ⟨b3, o3 + q * 4 + 1, none⟩) hbb).trans y2
            have k3 : wr.cell? ⟨b3, o3 + q * 4 + 2, none⟩ = some (.int .i64 x3) := (hb6.cell (p := ⟨b3, o3 + q * 4 + 2, none⟩) hbb).trans y3
            have k4 : wr.cell? ⟨b3, o3 + q * 4 + 3, none⟩ = some (.int .i64 x4) := (hb6.cell (p := ⟨b3, o3 + q * 4 + 3, none⟩) hbb).trans y4
            have hnn : ∀ s ∈ S, 1 ≤ s.nodes ∧ s.nodes ≤ 10000 := fun s hs => HI2.out.nodes s (HSO.out.1.subset hs)
            have hx4 : 1 ≤ x4 ∧ x4 ≤ 10000 := by
              have hqS : q < S.length := by rw [← HML.out]; exact hqM
              have h5 := hnn S[q] (List.getElem_mem hqS)
              rw [List.getD_eq_getElem?_getD, List.getElem?_eq_getElem hqS] at hx
              simp only [Option.getD_some] at hx
              rw [hx] at h5
              exact h5
            have hlb := loadOf_bound (L := S.take q) (fun s hs => hnn s ((List.take_subset q S) hs)) t
            have hlq : (S.take q).length ≤ 9000 := by simp; omega
            have hnx := loadOf_take (S := S) (j := q) (by rw [← HML.out]; exact hqM) t
            rw [hx] at hnx
            obtain ⟨c, hnx, hcov⟩ : ∃ c, loadOf (S.take (q + 1)) t = loadOf (S.take q) t + c ∧ ((decide (x2 ≤ t) = false ∧ c = 0) ∨ (decide (x2 ≤ t) = true ∧ decide (t < x3) = false ∧ c = 0) ∨ (decide (x2 ≤ t) = true ∧ decide (t < x3) = true ∧ c = x4)) := by
              refine ⟨_, hnx, ?_⟩
              unfold covS
              simp only [decide_eq_true_eq, decide_eq_false_iff_not]
              split <;> omega
            generalize hlo : loadOf (S.take q) t = lo at *
            have HLO := Lib.hid hlo
            have hw2 : IntKind.i64.wrap (at0 + lo + x4) = at0 + lo + x4 := small_wrap (by omega) (by omega)
            have hqq : (q : Int) < M := by omega
            have HNX := Lib.hid hnx
            clear y1 y2 y3 y4 hsl hnn hx hlb hlq hnx hlo hb6
            by_cases hq0 : q = 0
            · subst hq0
              clear hprev
              rcases hcov with ⟨c3, rfl⟩ | ⟨c3, c4, rfl⟩ | ⟨c3, c4, rfl⟩
              all_goals
                go_wp2_with fail
                go_quiet (fail)
                go_wp2_with fail
                go_roundw
                case rel => exact ⟨0 + 1, by omega, by go_num, by rw [HNX.out]; go_num, below_drewN HB6.out _⟩
                case measure => simp [intOf]; omega
            · obtain ⟨z1, hz1, k5⟩ := hprev (by omega)
              obtain ⟨p, rfl⟩ : ∃ p, q = p + 1 := ⟨q - 1, by omega⟩
              simp only [Nat.add_sub_cancel] at k5
              have hz2 : decide (x1 ≤ z1) = false := by simp; omega
              have hp0 : decide ((0 : Int) < (p : Int) + 1) = true := by rw [decide_eq_true_iff]; omega
              have hwp : IntKind.i64.wrap ((p : Int) + 1 - 1) = p := pred_wrap (by omega)
              clear hz1 hprev hq0
              rcases hcov with ⟨c3, rfl⟩ | ⟨c3, c4, rfl⟩ | ⟨c3, c4, rfl⟩
              all_goals
                go_wp2_with fail
                go_quiet (fail)
                go_wp2_with fail
                go_roundw
                case rel => exact ⟨p + 1 + 1, by omega, by go_num, by rw [HNX.out]; go_num, below_drewN HB6.out _⟩
                case measure => simp [intOf]; omega
          · obtain rfl : q = M := by omega
            have hd5 : decide ((q : Int) < q) = false := by simp
            have hall : S.take q = S := by rw [HML.out, List.take_length]
            rw [hall]
            have HST2 := Lib.hid (stepsAny (HK5.out.below hb6) (by have := HI2.out.flen; omega))
            have HB7 := Lib.hid (HB5.out.trans (hb6.mono HB5.out.size))
            have HK7 := Lib.hid (HK5.out.below hb6)
            have hsum : at0 + loadOf S t = val up2 t := by
              rw [← HA.out, atOf_val HI2.out.vf ht0 ht1, HI2.out.eq t ht0, loadOf_perm HSO.out.1]
              omega
            have hle := HU2.out.1 t ht0
            have hfin := HU2.out.2
            rw [hsum]
            have hval1 : ∀ h : up2 = [⟨0, 1 + g⟩], val up2 t = 1 + g := by
              intro h
              rw [h]
              unfold val plc
              simp [plcN, frv]
            have hne : true = false → (val up2 t != 1 + g) = false := by
              intro ho
              have := hval1 (hfin ho)
              simpa using this
            generalize val up2 t = vv at *
            have hgt : decide (1 + g < vv) = false := by simp; omega
            clear hsum hall hb6 hle hfin hval1
            clear hne
            go_wp2_with fail
            refine (HST2.out).mono ?_
            rintro e w8 ⟨⟨v8, rfl, hv8⟩, hb8⟩
            have HCK := Lib.hid (checkT hv8.is (chk_iff.2 HI2.out.vf))
            have HB8 := Lib.hid (HB7.out.trans (hb8.mono HB7.out.size))
            have HK8 := Lib.hid (HK7.out.below hb8)
            clear hv8 hb8
            go_wp2_with fail
            refine (HCK.out).mono ?_
            rintro e w9 ⟨rfl, hb9⟩
            have HB9 := Lib.hid (HB8.out.trans (hb9.mono HB8.out.size))
            have HK9 := Lib.hid (HK8.out.below hb9)
            clear hb9
            go_wp2_with fail
            go_roundw
            case rel => exact ⟨k + 1, true, up2, fr2, L2, by omega, by go_num, rfl, HB9.out, HK9.out, HI2.out, HU2.out, HM2.out⟩
            case measure => simp [intOf]; omega
    · obtain rfl : k = N := by omega
      have hd9 : decide ((k : Int) < k) = false := by simp
      clear hb hbk hI hU hM
      go_wp2_with fail
      refine (knownYes _).mono ?_
      rintro e w2 ⟨rfl, hb2⟩
      have HB2 := Lib.hid (HB.out.trans (hb2.mono HB.out.size))
      clear hb2
      go_wp2_with fail
      go_ret
      exact ⟨rfl, HB2.out⟩

end Go.Proofs.Ytjknmnmilladlaa
