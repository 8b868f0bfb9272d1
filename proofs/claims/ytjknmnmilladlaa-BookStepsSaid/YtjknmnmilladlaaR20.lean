/-
  Walk: the law BookSteps.
-/
import Derived.Test.YtjknmnmilladlaaR18
import Derived.Test.YtjknmnmilladlaaR19
import Derived.Test.YtjknmnmilladlaaP24
namespace Go.Proofs.Ytjknmnmilladlaa
open Go.RowKit

set_option maxHeartbeats 8000000 in
set_option maxRecDepth 100000 in
theorem stepsKnown (g : Int) {w : World} {v : Value} {l : List Do} (h : IsDos w v l) (hc : 40 < l.length) : Calls Try.prog 7 #[.int .u8 g, v] w (Yes w) := by
  obtain ⟨ao, cap, rfl, p1, p2⟩ := h.shape
  obtain ⟨N, hN⟩ : ∃ N, N = l.length := ⟨_, rfl⟩
  rw [← hN] at hc p1 ⊢
  clear h hN
  have d1 : decide ((40 : Int) < N) = true := by simp; omega
  go_enter Try.func7, Try.ntmps7
  go_wp2_with fail
  refine (knownYes _).mono ?_
  rintro e w1 ⟨rfl, hb1⟩
  have HB := Lib.hid hb1
  clear hb1
  go_wp2_with fail
  go_ret
  exact ⟨rfl, HB.out⟩

set_option maxHeartbeats 16000000 in
set_option maxRecDepth 100000 in
theorem stepsMain (g : Int) {w : World} {v : Value} {l : List Do} (h : IsDos w v l) (hdb : ∀ d ∈ l, d.s.id ≤ 9223372036854775807) (g1 : 0 ≤ g) (g2 : g ≤ 255) (hl : l.length ≤ 40) : Calls Try.prog 7 #[.int .u8 g, v] w (Yes w) := by
  have HN := Lib.hid (newYes (1 + g) w (by omega) (by omega))
  have HRN := Lib.hid (fun (wx : World) => refNew (1 + g) wx (by omega) (by omega))
  have HI0 := Lib.hid (Inv.new (n := 1 + g) (by omega) (by omega))
  obtain ⟨N, hN⟩ : ∃ N, N = l.length := ⟨_, rfl⟩
  have hC : ∀ i, i < N → ∃ b o cap, v = .slice (some ⟨b, o, none⟩) N cap ∧ b < w.heap.size ∧ N ≤ cap ∧ cap ≤ 9223372036854775807 ∧ (∀ j u, (doCells (l.getD i default))[j]? = some u → w.cell? ⟨b, o + i * 5 + j, none⟩ = some u) ∧ (l.getD i default).s.id ≤ 9223372036854775807 := by
    intro i hi
    obtain ⟨b, o, cap, h0, h1, h2, h3, h4⟩ := doAtV h (by omega)
    refine ⟨b, o, cap, by rw [hN]; exact h0, h3, by omega, h2, h4 i (by omega), hdb _ ?_⟩
    rw [List.getD_eq_getElem?_getD, List.getElem?_eq_getElem (by omega)]
    exact List.getElem_mem _
  obtain ⟨ao, cap, rfl, p1, p2⟩ := h.shape
  rw [← hN] at hl p1 hC ⊢
  have HC := Lib.hid hC
  have d1 : decide ((40 : Int) < N) = false := by simp; omega
  have hw1 : IntKind.i64.wrap (1 + g) = 1 + g := small_wrap (by omega) (by omega)
  clear h hN hC hdb
  go_enter Try.func7, Try.ntmps7
  go_wp2_with fail
  refine (HN.out).mono ?_
  rintro e w1 ⟨⟨bk, bm, rfl, hk, h1, h2⟩, hb1⟩
  have HK := Lib.hid hk
  have HB := Lib.hid hb1
  have hlk := hk.lt
  have hlm := hk.map.lt
  clear hk hb1
  go_wp2_with fail
  refine (HRN.out _).mono ?_
  rintro e w2 ⟨⟨a2, rfl, hu2, hap2⟩, hb2⟩
  obtain ⟨n1, hn1⟩ : ∃ n1, n1 = 1 + g := ⟨_, rfl⟩
  have hX1 : w1.heap.size ≤ w2.heap.size := hb2.size
  obtain ⟨X, hX⟩ : ∃ X, X = w2.heap.size := ⟨_, rfl⟩
  have hwX : w.heap.size ≤ X := by have := HB.out.size; omega
  have hXk : X ≠ bk := by omega
  have hXm : X ≠ bm := by omega
  obtain ⟨w3, hw3⟩ : ∃ w3, w3 = w2.alloc (.cells #[.int .i64 (1 + g), .slice (some a2) 1 1, .slice none 0 0] 59) := ⟨_, rfl⟩
  obtain ⟨hb3, hsz3, t0, t1, t2, tf⟩ := made59 hw3
  rw [← hX] at t0 t1 t2 tf
  have HBE : Hid (Beside w3 X bk (1 + g) (.slice (some a2) 1 1) (.slice none 0 0) [⟨0, 1 + g⟩] []) := Lib.hid ⟨t0, t1, t2, tf, hu2.below hb3, (⟨rfl, none, 0, rfl, Nat.le_refl _, Nat.zero_le _, fun h => absurd h (Nat.lt_irrefl _)⟩ : IsSlots w3 (.slice none 0 0) []), fun m c h => by cases h; rfl, hap2 _ hlk, apart_nil _⟩
  have HK3 := Lib.hid ((HK.out.below hb2).below hb3)
  have HB3 := Lib.hid (HB.out.trans ((hb2.trans (hb3.mono hb2.size)).mono HB.out.size))
  have HW3 := Lib.hid hw3
  have HX := Lib.hid hX
  clear hw3 hb2 hb3 hsz3 t0 t1 t2 tf hu2 hap2 HK HB hX1 hlk hlm hX HN HRN hn1 n1
  go_wp2_with fail
  rw [← HW3.out, ← HX.out]
  go_loopw [10] (fun i wr => ∃ (k : Nat) (up fr : List Step) (L S : List Slot) (vu vs : Value), k ≤ N ∧ i = .int .i64 k ∧ Below w.heap.size w wr ∧ BookIs wr bk bm (1 + g) up fr L ∧ Inv (1 + g) up fr L ∧ (∀ x ∈ L, x.id ≤ 9223372036854775807) ∧ SortedOf L S ∧ Beside wr X bk (1 + g) vu vs up S) (fun i _ => N - (intOf i).toNat)
  case atStart => exact ⟨0, _, _, _, _, _, _, by omega, rfl, HB3.out, HK3.out, HI0.out, by simp, ⟨List.Perm.refl _, List.Pairwise.nil⟩, HBE.out⟩
  case round =>
    obtain ⟨k, up, fr, L, S, vu, vs, hk, rfl, hb, hbk, hI, hM, hS, hBE⟩ := hrel
    clear HK3 HB3 HI0 HBE HW3
    have HB := Lib.hid hb
    have HK := Lib.hid hbk
    have HI := Lib.hid hI
    have HM := Lib.hid hM
    have HSO := Lib.hid hS
    by_cases hkN : k < N
    · obtain ⟨b, o, cap2, e0, hbw, hNc, hcap, hcell, hdi⟩ := HC.out k hkN
      cases e0
      obtain ⟨d, hd⟩ : ∃ d, d = l.getD k default := ⟨_, rfl⟩
      rw [← hd] at hcell hdi
      have hkk : (k : Int) < N := by omega
      have hcc : ∀ j u, (doCells d)[j]? = some u → wr.cell? ⟨b, o + k * 5 + j, none⟩ = some u := fun j u hu => (hb.cell (p := ⟨b, o + k * 5 + j, none⟩) hbw).trans (hcell j u hu)
      have q0 : wr.cell? ⟨b, o + k * 5, none⟩ = some (.int .i64 d.kind) := hcc 0 _ rfl
      have q1 := hcc 1 _ rfl
      have q2 := hcc 2 _ rfl
      have q3 := hcc 3 _ rfl
      have q4 := hcc 4 _ rfl
      have HCC := Lib.hid hcell
      have HD := Lib.hid (doneAny hbk hI d)
      unfold doV at HD
      obtain ⟨au, cu, hvu, _, _⟩ := hBE.u.shape
      obtain ⟨az, cz, hvs, _, _⟩ := hBE.s.shape
      generalize up.length = mu at hvu
      generalize S.length = mz at hvs
      subst hvu
      subst hvs
      have hRS := fun (wx : World) (hu : IsSteps wx (.slice au mu cu) up) (hs : IsSlots wx (.slice az mz cz) S) => refStep (n := 1 + g) hu hs hBE.no (hI.fine hS.1) hI.ul (SortedOf.lt hS hI.ids) d
      have HRS := Lib.hid hRS
      unfold doV at HRS
      have HBE := Lib.hid hBE
      have HDI := Lib.hid hdi
      clear hcell hcc hb hbk hI hd hM hdi hS hBE hRS
      go_wp2_with fail
      refine (HD.out).mono ?_
      rintro e wa ⟨u, ids, err, up2, fr2, L2, rfl, hv2, hd2, hk2, hK2⟩
      have hb2 := HB.out.trans (hK2.below h1 h2 HB.out.size)
      have hbe2 := HBE.out.kept hK2 HK.out.map hXk hXm
      have c0 := hbe2.c0
      have c1 := hbe2.c1
      have c2 := hbe2.c2
      have hXa := hbe2.lt
      have hba : b < wa.heap.size := Nat.lt_of_lt_of_le hbw hb2.size
      have hcc : ∀ j u, (doCells d)[j]? = some u → wa.cell? ⟨b, o + k * 5 + j, none⟩ = some u := fun j u hu => (hb2.cell (p := ⟨b, o + k * 5 + j, none⟩) hbw).trans (HCC.out j u hu)
      have q0 : wa.cell? ⟨b, o + k * 5, none⟩ = some (.int .i64 d.kind) := hcc 0 _ rfl
      have q1 := hcc 1 _ rfl
      have q2 := hcc 2 _ rfl
      have q3 := hcc 3 _ rfl
      have q4 := hcc 4 _ rfl
      have HR2 := Lib.hid (fun (wx : World) (hx : Below wa.heap.size wa wx) => (HRS.out wx (hbe2.u.below hx) (hbe2.s.below hx)).mono (fun e w' hp => (⟨hp, by obtain ⟨_, _, _, _, _, _, _, _, _, _, _, _, _, hz, _⟩ := hp; exact hx.trans (hz.mono hx.size)⟩ : RPost wx (1 + g) (.slice au mu cu) (.slice az mz cz) up S d e w' ∧ Below wa.heap.size wa w')))
      have hI2 := hd2.inv HI.out
      have hbka : bk < wa.heap.size := hk2.lt
      have HV2 := Lib.hid hv2
      have HD2 := Lib.hid hd2
      have HB2 := Lib.hid hb2
      have HK2 := Lib.hid hk2
      have HI2 := Lib.hid hI2
      have HM2 := Lib.hid (hd2.ids_le HM.out HDI.out)
      have HBE2 := Lib.hid hbe2
      have HBA := Lib.hid (And.intro hXa (And.intro hba hbka))
      have HQ := Lib.hid (And.intro q0 (And.intro q1 (And.intro q2 (And.intro q3 (And.intro q4 (And.intro c0 (And.intro c1 c2)))))))
      clear hv2 hd2 hk2 hK2 hb2 hI2 hbe2 hcc HD HRS HBE HB HK
      go_wp2_with fail
      go_upto_region 10 with fail
      go_cut [13, 14, 15] from 37 to 108 (fun v13 v14 v15 wz => ∃ (Y : Nat) (vg : Value) (ids2 : List Int) (err2 : Int) (up3 : List Step) (S3 : List Slot) (a3 : Option Addr) (m3 c3 : Nat) (a4 : Option Addr) (m4 c4 : Nat), v13 = .pointer (some ⟨Y, 0, none⟩) ∧ v14 = vg ∧ v15 = .int .i64 err2 ∧ Below wa.heap.size wa wz ∧ (wz.cell? ⟨Y, 0, none⟩ = some (.int .i64 (1 + g)) ∧ wz.cell? ⟨Y, 1, none⟩ = some (.slice a3 m3 c3) ∧ wz.cell? ⟨Y, 2, none⟩ = some (.slice a4 m4 c4)) ∧ IsSteps wz (.slice a3 m3 c3) up3 ∧ IsSlots wz (.slice a4 m4 c4) S3 ∧ (∀ m c, Value.slice a4 m4 c4 = .slice none m c → c = m) ∧ IsInts wz vg ids2 ∧ RefStep (1 + g) up S d ids2 err2 up3 S3 ∧ Apart bk (.slice a3 m3 c3) ∧ Apart bk (.slice a4 m4 c4))
      case first =>
        go_region_held3 (fun w' => w'.cell? ⟨b, o + k * 5, none⟩ = some (.int .i64 d.kind) ∧ w'.cell? ⟨b, o + k * 5 + 1, none⟩ = some (.int .i64 d.s.id) ∧ w'.cell? ⟨b, o + k * 5 + 2, none⟩ = some (.int .i64 d.s.frm) ∧ w'.cell? ⟨b, o + k * 5 + 3, none⟩ = some (.int .i64 d.s.to) ∧ w'.cell? ⟨b, o + k * 5 + 4, none⟩ = some (.int .i64 d.s.nodes) ∧ w'.cell? ⟨X, 0, none⟩ = some (.int .i64 (1 + g)) ∧ w'.cell? ⟨X, 1, none⟩ = some (.slice au mu cu) ∧ w'.cell? ⟨X, 2, none⟩ = some (.slice az mz cz)) (first | go_keep | exact HQ5.out | exact ⟨(set3_other hnb).trans HQ5.out.1, (set3_other hnb).trans HQ5.out.2.1, (set3_other hnb).trans HQ5.out.2.2.1, (set3_other hnb).trans HQ5.out.2.2.2.1, (set3_other hnb).trans HQ5.out.2.2.2.2.1, (set3_other hnX).trans HQ5.out.2.2.2.2.2.1, (set3_other hnX).trans HQ5.out.2.2.2.2.2.2.1, (set3_other hnX).trans HQ5.out.2.2.2.2.2.2.2⟩ | exact ⟨cell_old _ HQ5.out.1, cell_old _ HQ5.out.2.1, cell_old _ HQ5.out.2.2.1, cell_old _ HQ5.out.2.2.2.1, cell_old _ HQ5.out.2.2.2.2.1, cell_old _ HQ5.out.2.2.2.2.2.1, cell_old _ HQ5.out.2.2.2.2.2.2.1, cell_old _ HQ5.out.2.2.2.2.2.2.2⟩) ((go_at_call 27; refine (HR2.out _ (by first | exact (Below.refl _ _).drew | exact ((Below.refl _ _).alloc (Nat.le_refl _) _).drew)).mono ?_; rintro e w5 ⟨⟨vu2, vs2, vg, ids2, err2, up3, S3, rfl, e1, e2, e3, e4, e5, e6, e7, e8, e9⟩, hb5⟩; obtain ⟨a3, c3, hvu2, _, _⟩ := IsRow.shape e1; obtain ⟨a4, c4, hvs2, _, _⟩ := IsRow.shape e2; generalize up3.length = m3 at hvu2; generalize S3.length = m4 at hvs2; subst hvu2; subst hvs2; have hnb : b ≠ wa.heap.size := Nat.ne_of_lt HBA.out.2.1; have hnX : X ≠ wa.heap.size := Nat.ne_of_lt HBA.out.1; have HQ5 := Lib.hid (And.intro ((hb5.cell (p := ⟨b, o + k * 5, none⟩) HBA.out.2.1).trans HQ.out.1) (And.intro ((hb5.cell (p := ⟨b, o + k * 5 + 1, none⟩) HBA.out.2.1).trans HQ.out.2.1) (And.intro ((hb5.cell (p := ⟨b, o + k * 5 + 2, none⟩) HBA.out.2.1).trans HQ.out.2.2.1) (And.intro ((hb5.cell (p := ⟨b, o + k * 5 + 3, none⟩) HBA.out.2.1).trans HQ.out.2.2.2.1) (And.intro ((hb5.cell (p := ⟨b, o + k * 5 + 4, none⟩) HBA.out.2.1).trans HQ.out.2.2.2.2.1) (And.intro ((hb5.cell (p := ⟨X, 0, none⟩) HBA.out.1).trans HQ.out.2.2.2.2.2.1) (And.intro ((hb5.cell (p := ⟨X, 1, none⟩) HBA.out.1).trans HQ.out.2.2.2.2.2.2.1) ((hb5.cell (p := ⟨X, 2, none⟩) HBA.out.1).trans HQ.out.2.2.2.2.2.2.2)))))))); (try (have z0 := thru_new (o := 0) e6 rfl)); (try (have z1 := thru_new (o := 1) e6 rfl)); (try (have z2 := thru_new (o := 2) e6 rfl)); (try (have f0 := thru_frz e6 0)); (try (have f1 := thru_frz e6 1)); (try (have f2 := thru_frz e6 2)); have HB5 := Lib.hid hb5; have HE6 := Lib.hid e6; have HE := Lib.hid (And.intro e1 (And.intro e2 (And.intro e3 (And.intro e4 (And.intro e5 (And.intro e7 (And.intro e8 e9))))))); clear hb5 e1 e2 e3 e4 e5 e6 e7 e8 e9))
        · go_wp2_with fail
          go_meet
          case rel =>
            obtain ⟨e1, e2, e3, e4, e5, e7, e8, e9⟩ := HE.out
            obtain ⟨c1, c2, c3, c4, c5, c6⟩ := made59 (w := w5) (n := 1 + g) (vu := .slice a3 m3 c3) (vs := .slice a4 m4 c4) rfl
            refine ⟨w5.heap.size, vg, ids2, err2, up3, S3, a3, m3, _, a4, m4, _, rfl, rfl, rfl, HB5.out.trans (c1.mono HB5.out.size), ⟨c3, c4, c5⟩, e1.below c1, e2.below c1, e3, e4.below c1, e5, ?_, ?_⟩
            · rcases e7 with h | h
              · rw [h]; exact HBE2.out.au
              · exact h _ HBA.out.2.2
            · rcases e8 with h | h
              · rw [h]; exact HBE2.out.az
              · exact h _ HBA.out.2.2
        · go_wp2_with fail
          go_meet
          case rel =>
            obtain ⟨e1, e2, e3, e4, e5, e7, e8, e9⟩ := HE.out
            have hsa : wa.heap.size < (wa.alloc (.cells #[.int .i64 0, .slice none 0 0, .slice none 0 0] 59)).drew.heap.size := by show wa.heap.size < (wa.alloc (.cells #[.int .i64 0, .slice none 0 0, .slice none 0 0] 59)).heap.size; simp
            have hka : bk < (wa.alloc (.cells #[.int .i64 0, .slice none 0 0, .slice none 0 0] 59)).drew.heap.size := Nat.lt_trans HBA.out.2.2 hsa
            obtain ⟨s3, s4, s5⟩ := set3 (a := .int .i64 (1 + g)) (b := .slice a3 m3 c3) (c := .slice a4 m4 c4) z0 z1 z2
            have p1 : Apart wa.heap.size (.slice a3 m3 c3) := by
              rcases e7 with h | h
              · rw [h]; exact Apart.of_lt HBE2.out.u (Nat.le_refl _)
              · exact h _ hsa
            have p2 : Apart wa.heap.size (.slice a4 m4 c4) := by
              rcases e8 with h | h
              · rw [h]; exact Apart.slots HBE2.out.s (Nat.le_refl _)
              · exact h _ hsa
            refine ⟨wa.heap.size, vg, ids2, err2, up3, S3, a3, m3, _, a4, m4, _, rfl, rfl, rfl, below_set3 HB5.out (Nat.le_refl _), ⟨s3, s4, s5⟩, IsRow.set3 e1 p1, IsRow.set3 e2 p2, e3, IsRow.set3 e4 (e9 _ hsa), e5, ?_, ?_⟩
            · rcases e7 with h | h
              · rw [h]; exact HBE2.out.au
              · exact h _ hka
            · rcases e8 with h | h
              · rw [h]; exact HBE2.out.az
              · exact h _ hka
      case rest =>
        obtain ⟨Y, vg, ids2, err2, up3, S3, a3, m3, c3, a4, m4, c4, rfl, rfl, rfl, hbz, ⟨y0, y1, y2⟩, hu3, hs3, hno3, hi3, hst3, hap3, hap4⟩ := hcut
        obtain ⟨h3, h4, h5, hS2⟩ := agree HI.out HSO.out HD2.out hst3
        subst h3
        subst h4
        subst h5
        obtain ⟨hXa, hba, hbka⟩ := HBA.out
        have hbX : b ≠ X := Nat.ne_of_lt (Nat.lt_of_lt_of_le hbw hwX)
        have hbe := HBE2.out.below hbz
        have c0 := hbe.c0
        have c1 := hbe.c1
        have c2 := hbe.c2
        have f0 := hbe.fz 0
        have f1 := hbe.fz 1
        have f2 := hbe.fz 2
        have HBET := Lib.hid (hbe.turn hu3 hs3 hno3 hap3 hap4)
        have HKT := Lib.hid (hbe.book (vu2 := .slice a3 m3 c3) (vs2 := .slice a4 m4 c4) (HK2.out.below hbz) hXk)
        have HVT := Lib.hid (hbe.ints (vu2 := .slice a3 m3 c3) (vs2 := .slice a4 m4 c4) (HV2.out.below hbz))
        have HGT := Lib.hid (hbe.ints (vu2 := .slice a3 m3 c3) (vs2 := .slice a4 m4 c4) hi3)
        have HBT : Hid (Below w.heap.size w (((wc.setCell ⟨X, 0, none⟩ (.int .i64 (1 + g))).setCell ⟨X, 1, none⟩ (.slice a3 m3 c3)).setCell ⟨X, 2, none⟩ (.slice a4 m4 c4))) := Lib.hid (below_set3 (HB2.out.trans (hbz.mono HB2.out.size)) hwX)
        have HQT : Hid ((((wc.setCell ⟨X, 0, none⟩ (.int .i64 (1 + g))).setCell ⟨X, 1, none⟩ (.slice a3 m3 c3)).setCell ⟨X, 2, none⟩ (.slice a4 m4 c4)).cell? ⟨b, o + k * 5 + 1, none⟩ = some (.int .i64 d.s.id)) := Lib.hid ((set3_other hbX).trans ((hbz.cell (p := ⟨b, o + k * 5 + 1, none⟩) hba).trans HQ.out.2.1))
        have HS2 := Lib.hid hS2
        clear hS2 hst3 hbe hu3 hs3 hno3 hi3 hap3 hap4 hbz HV2 HD2 HQ q0 q1 q2 q3 q4 HR2 HBE2 HK2 HB2
        go_wp2_with fail
        obtain ⟨wf, hwf⟩ : ∃ wf, wf = (((wc.setCell ⟨X, 0, none⟩ (.int .i64 (1 + g))).setCell ⟨X, 1, none⟩ (.slice a3 m3 c3)).setCell ⟨X, 2, none⟩ (.slice a4 m4 c4)) := ⟨_, rfl⟩
        rw [← hwf] at HBET HKT HVT HGT HBT HQT ⊢
        clear hwf c0 c1 c2 f0 f1 f2 y0 y1 y2
        refine (intsSame HVT.out HGT.out rfl).mono ?_
        rintro e w6 ⟨rfl, hb6⟩
        have hbe6 := HBET.out.below hb6
        have c0 := hbe6.c0
        have c1 := hbe6.c1
        have c2 := hbe6.c2
        have HBE6 := Lib.hid hbe6
        have HK6 := Lib.hid (HKT.out.below hb6)
        have HB6 := Lib.hid (HBT.out.trans (hb6.mono HBT.out.size))
        have HQ6 := Lib.hid ((hb6.cell (p := ⟨b, o + k * 5 + 1, none⟩) (World.block_lt_of_cell? wf _ HQT.out)).trans HQT.out)
        have hne : (err2 != err2) = false := by simp
        clear hbe6 hb6 HBET HKT HVT HGT HBT HQT
        go_wp2_with fail
        refine (sameYes HK6.out HI2.out HM2.out HS2.out HBE6.out.u HBE6.out.s).mono ?_
        rintro e w7 ⟨rfl, hb7⟩
        have q1 := (hb7.cell (p := ⟨b, o + k * 5 + 1, none⟩) (World.block_lt_of_cell? w6 _ HQ6.out)).trans HQ6.out
        have HBE7 := Lib.hid (HBE6.out.below hb7)
        have HK7 := Lib.hid (HK6.out.below hb7)
        have HB7 := Lib.hid (HB6.out.trans (hb7.mono HB6.out.size))
        have HGA := Lib.hid (getAny HK7.out HS2.out (fun s hs => (right_iff.1 (HI2.out.rt s hs)).1) d.s.id)
        clear hb7 c0 c1 c2 HBE6 HK6 HB6 HQ6
        go_wp2_with fail
        refine (HGA.out).mono ?_
        rintro e w8 ⟨⟨s, ok, he, hok⟩, hb8⟩
        obtain ⟨x1, x2, x3, x4⟩ := s
        unfold slotV at he
        simp only at he
        subst he
        obtain ⟨w9, hw9⟩ : ∃ w9, w9 = w8.alloc (.cells #[.int .i64 x1, .int .i64 x2, .int .i64 x3, .int .i64 x4] 29) := ⟨_, rfl⟩
        obtain ⟨hb9, hs9, ⟨v0, v1, v2, v3⟩, _⟩ := made29 hw9
        have hs98 : w8.heap.size < w9.heap.size := by omega
        have hb89 := hb8.trans (hb9.mono hb8.size)
        have HBE9 := Lib.hid (HBE7.out.below hb89)
        have HK9 := Lib.hid (HK7.out.below hb89)
        have HB9 := Lib.hid (HB7.out.trans (hb89.mono HB7.out.size))
        obtain ⟨hm4, hm5, hm6⟩ := slots_len HBE9.out.s
        have HV9 := Lib.hid (And.intro v0 (And.intro v1 (And.intro v2 v3)))
        have HOK := Lib.hid hok
        have HW9 := Lib.hid hw9
        have HM4 := Lib.hid hm4
        clear hb8 hb9 hs9 hb89 hok hw9 hm4 v0 v1 v2 v3 q1 HBE7 HK7 HB7 HGA
        go_wp2_with fail
        rw [← HW9.out]
        go_loopw [18, 19] (fun iv kv wy => ∃ (z : Nat) (oo : Bool), z ≤ m4 ∧ kv = .int .i64 z ∧ iv = .bool oo ∧ oo = decide ((⟨x1, x2, x3, x4⟩ : Slot) ∈ S3.take z) ∧ Below w9.heap.size w9 wy) (fun _ kv _ => m4 - (intOf kv).toNat)
        case atStart => exact ⟨0, false, by omega, rfl, rfl, by simp, Below.refl _ _⟩
        case round =>
          rename World => wy
          obtain ⟨z, oo, hz, rfl, rfl, ho, hby⟩ := hrel
          have hbe := HBE9.out.below hby
          have c0 := hbe.c0
          have c1 := hbe.c1
          have c2 := hbe.c2
          have HBY := Lib.hid hby
          have HO := Lib.hid ho
          by_cases hzm : z < m4
          · obtain ⟨b6, o6, c6, e6, _, _, hb6l, hsl⟩ := slotAtV hbe.s (by rw [← HM4.out]; omega)
            obtain ⟨s1, s2, s3, s4, hx, y1, y2, y3, y4⟩ := hsl z (by rw [← HM4.out]; exact hzm)
            injection e6 with e61 e62 e63
            subst e61
            have u0 := (hby.cell (p := ⟨w8.heap.size, 0, none⟩) hs98).trans HV9.out.1
            have u1 := (hby.cell (p := ⟨w8.heap.size, 1, none⟩) hs98).trans HV9.out.2.1
            have u2 := (hby.cell (p := ⟨w8.heap.size, 2, none⟩) hs98).trans HV9.out.2.2.1
            have u3 := (hby.cell (p := ⟨w8.heap.size, 3, none⟩) hs98).trans HV9.out.2.2.2
            have hzz : (z : Int) < m4 := by omega
            have heq : ∀ w, (binOp .eql 29 (.agg #[.int .i64 s1, .int .i64 s2, .int .i64 s3, .int .i64 s4]) (.agg #[.int .i64 x1, .int .i64 x2, .int .i64 x3, .int .i64 x4])).run Try.prog w = .ok (.bool (decide ((⟨s1, s2, s3, s4⟩ : Slot) = ⟨x1, x2, x3, x4⟩))) w := fun w => by
              have := eql29 ⟨s1, s2, s3, s4⟩ ⟨x1, x2, x3, x4⟩ w
              unfold slotV at this
              exact this
            have hgu := fun (w : World) (s u : Operand) => run_eqGuard_agg (P := Try.prog) w .eql 29 s u #[.int .i64 s1, .int .i64 s2, .int .i64 s3, .int .i64 s4] #[.int .i64 x1, .int .i64 x2, .int .i64 x3, .int .i64 x4] eqg29
            have hnx := mem_takeS (S := S3) (j := z) (by rw [← HM4.out]; exact hzm) ⟨x1, x2, x3, x4⟩
            rw [hx, ← HO.out] at hnx
            generalize decide ((⟨s1, s2, s3, s4⟩ : Slot) = ⟨x1, x2, x3, x4⟩) = dq at heq hnx
            have HNX := Lib.hid hnx
            clear hsl hx hnx e62 e63 hbe hby ho
            cases oo
            · go_wp2_with fail
              go_quiet (fail)
              go_wp2_with fail
              go_roundw
              case rel => exact ⟨z + 1, dq, by omega, by go_num, rfl, by rw [HNX.out]; rfl, below_drewN HBY.out _⟩
              case measure => simp [intOf]; omega
            · go_wp2_with fail
              go_quiet (fail)
              go_wp2_with fail
              go_roundw
              case rel => exact ⟨z + 1, true, by omega, by go_num, rfl, by rw [HNX.out]; rfl, below_drewN HBY.out _⟩
              case measure => simp [intOf]; omega
          · obtain rfl : z = m4 := by omega
            have hoo : oo = ok := by rw [HO.out, HOK.out, HM4.out, List.take_length]
            subst hoo
            have hd5 : decide ((z : Int) < z) = false := by simp
            have hbb : (oo != oo) = false := by simp
            have HBEY := Lib.hid hbe
            have HKY := Lib.hid (HK9.out.below hby)
            have HBYY := Lib.hid (HB9.out.trans (hby.mono HB9.out.size))
            clear ho hbe hby
            go_wp2_with fail
            go_roundw
            case rel => exact ⟨k + 1, up3, fr2, L2, S3, _, _, by omega, by go_num, HBYY.out, HKY.out, HI2.out, HM2.out, HS2.out, HBEY.out⟩
            case measure => simp [intOf]; omega
    · obtain rfl : k = N := by omega
      have hd9 : decide ((k : Int) < k) = false := by simp
      clear hb hbk hI hM hS hBE
      go_wp2_with fail
      refine (knownYes _).mono ?_
      rintro e w3 ⟨rfl, hb3⟩
      have HB3 := Lib.hid (HB.out.trans (hb3.mono HB.out.size))
      clear hb3
      go_wp2_with fail
      go_ret
      exact ⟨rfl, HB3.out⟩

end Go.Proofs.Ytjknmnmilladlaa
