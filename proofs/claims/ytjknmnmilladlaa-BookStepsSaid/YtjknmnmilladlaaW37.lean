/-
  Walk: the law BookOuts.
-/
import Derived.Test.YtjknmnmilladlaaLw
import Derived.Test.YtjknmnmilladlaaP17
namespace Go.Proofs.Ytjknmnmilladlaa
open Go.RowKit

theorem sameSlotsT {w : World} {v1 v2 : Value} {l m : List Slot} (h1 : IsSlots w v1 l) (h2 : IsSlots w v2 m) (he : l = m) :
    Calls Try.prog 25 #[v1, v2] w fun e w' => e = .returned (.bool true) ∧ Below w.heap.size w w' := (sameSlots h1 h2).mono fun _ _ ⟨a, b⟩ => ⟨by rw [a]; simp [he], b⟩
theorem IsSlots.keptB {w w' : World} {bk bm : Nat} {v : Value} {l L : List Slot} (h : IsSlots w v l) (hK : Kept bk bm w w') (ha : Apart bk v) (hm : MapIs w bm L) : IsSlots w' v l := IsRow.kept (by decide) h hK ha hm
theorem IsSteps.keptB {w w' : World} {bk bm : Nat} {v : Value} {l : List Step} {L : List Slot} (h : IsSteps w v l) (hK : Kept bk bm w w') (ha : Apart bk v) (hm : MapIs w bm L) : IsSteps w' v l := IsRow.kept (by decide) h hK ha hm

set_option maxHeartbeats 8000000 in
set_option maxRecDepth 100000 in
theorem outsKnown (g a b c : Int) {w : World} {v : Value} {l : List Do} (h : IsDos w v l) (hc : 40 < l.length) : Calls Try.prog 6 #[.int .u8 g, v, .int .i64 a, .int .i64 b, .int .i64 c] w (Yes w) := by
  obtain ⟨ao, cap, rfl, p1, p2⟩ := h.shape
  obtain ⟨N, hN⟩ : ∃ N, N = l.length := ⟨_, rfl⟩
  rw [← hN] at hc p1 ⊢
  clear h hN
  have d1 : decide ((40 : Int) < N) = true := by simp; omega
  go_enter Try.func6, Try.ntmps6
  go_wp2_with fail
  refine (knownYes _).mono ?_
  rintro e w1 ⟨rfl, hb1⟩
  have HB := Lib.hid hb1
  clear hb1
  go_wp2_with fail
  go_ret
  exact ⟨rfl, HB.out⟩

set_option maxHeartbeats 16000000 in
set_option maxRecDepth 100000 in
theorem outsMain (g fa ta ka : Int) {w : World} {v : Value} {l : List Do} (h : IsDos w v l) (hdb : ∀ d ∈ l, d.s.id ≤ 9223372036854775807) (g1 : 0 ≤ g) (g2 : g ≤ 255) (hl : l.length ≤ 40) : Calls Try.prog 6 #[.int .u8 g, v, .int .i64 fa, .int .i64 ta, .int .i64 ka] w (Yes w) := by
  have HN := Lib.hid (newYes (1 + g) w (by omega) (by omega))
  have HI0 := Lib.hid (Inv.new (n := 1 + g) (by omega) (by omega))
  obtain ⟨N, hN⟩ : ∃ N, N = l.length := ⟨_, rfl⟩
  have hC : ∀ i, i < N → ∃ b o cap, v = .slice (some ⟨b, o, none⟩) N cap ∧ b < w.heap.size ∧ N ≤ cap ∧ cap ≤ 9223372036854775807 ∧ (∀ j u, (doCells (l.getD i default))[j]? = some u → w.cell? ⟨b, o + i * 5 + j, none⟩ = some u) ∧ (l.getD i default).s.id ≤ 9223372036854775807 := by
    intro i hi
    obtain ⟨b, o, cap, h0, h1, h2, h3, h4⟩ := doAtV h (by omega)
    refine ⟨b, o, cap, by rw [hN]; exact h0, h3, by omega, h2, h4 i (by omega), hdb _ ?_⟩
    rw [List.getD_eq_getElem?_getD, List.getElem?_eq_getElem (by omega)]
    exact List.getElem_mem _
  obtain ⟨ao, cap, rfl, p1, p2⟩ := h.shape
  rw [← hN] at hl p1 hC ⊢
  have HC := Lib.hid hC
  have d1 : decide ((40 : Int) < N) = false := by simp; omega
  have hw1 : IntKind.i64.wrap (1 + g) = 1 + g := small_wrap (by omega) (by omega)
  clear h hN hC hdb
  go_enter Try.func6, Try.ntmps6
  go_wp2_with fail
  refine (HN.out).mono ?_
  rintro e w1 ⟨⟨bk, bm, rfl, hk, h1, h2⟩, hb1⟩
  have HK := Lib.hid hk
  have HB := Lib.hid hb1
  clear hk hb1
  go_wp2_with fail
  go_loopw [13] (fun i wr => ∃ (k : Nat) (up fr : List Step) (L : List Slot), k ≤ N ∧ i = .int .i64 k ∧ Below w.heap.size w wr ∧ BookIs wr bk bm (1 + g) up fr L ∧ Inv (1 + g) up fr L ∧ ∀ x ∈ L, x.id ≤ 9223372036854775807) (fun i _ => N - (intOf i).toNat)
  case atStart => exact ⟨0, _, _, _, by omega, rfl, HB.out, HK.out, HI0.out, by simp⟩
  case round =>
    obtain ⟨k, up, fr, L, hk, rfl, hb, hbk, hI, hM⟩ := hrel
    clear HK HB HI0
    have HB := Lib.hid hb
    have HK := Lib.hid hbk
    have HI := Lib.hid hI
    have HM := Lib.hid hM
    by_cases hkN : k < N
    · obtain ⟨b, o, cap2, e0, hbw, hNc, hcap, hcell, hdi⟩ := HC.out k hkN
      cases e0
      obtain ⟨d, hd⟩ : ∃ d, d = l.getD k default := ⟨_, rfl⟩
      rw [← hd] at hcell hdi
      have hkk : (k : Int) < N := by omega
      have hcc : ∀ j u, (doCells d)[j]? = some u → wr.cell? ⟨b, o + k * 5 + j, none⟩ = some u := fun j u hu => (hb.cell (p := ⟨b, o + k * 5 + j, none⟩) hbw).trans (hcell j u hu)
      have q0 : wr.cell? ⟨b, o + k * 5, none⟩ = some (.int .i64 d.kind) := hcc 0 _ rfl
      have q1 := hcc 1 _ rfl
      have q2 := hcc 2 _ rfl
      have q3 := hcc 3 _ rfl
      have q4 := hcc 4 _ rfl
      have HD := Lib.hid (doneAny hbk hI d)
      unfold doV at HD
      have HDI := Lib.hid hdi
      clear hcell hcc hb hbk hI hd hM hdi
      go_wp2_with fail
      refine (HD.out).mono ?_
      rintro e w2 ⟨u, ids, err, up2, fr2, L2, rfl, hv2, hd2, hk2, hK2⟩
      have hb2 := HB.out.trans (hK2.below h1 h2 HB.out.size)
      have hI2 := hd2.inv HI.out
      have HB2 := Lib.hid hb2
      have HK2 := Lib.hid hk2
      have HI2 := Lib.hid hI2
      have HM2 := Lib.hid (hd2.ids_le HM.out HDI.out)
      clear hv2 hd2 hk2 hK2 hb2 hI2
      go_wp2_with fail
      go_roundw
      case rel => exact ⟨k + 1, up2, fr2, L2, by omega, by go_num, HB2.out, HK2.out, HI2.out, HM2.out⟩
      case measure => simp [intOf]; omega
    · obtain rfl : k = N := by omega
      have hd9 : decide ((k : Int) < k) = false := by simp
      have HSL := Lib.hid (slotsAny hbk (fun s hs => ⟨(right_iff.1 (hI.rt s hs)).1, hM s hs⟩) hI.len)
      have hltk := hbk.lt
      clear hb hbk hI hM
      go_wp2_with fail
      refine (HSL.out).mono ?_
      rintro e w3 ⟨v3, S, rfl, hso, hv3, hb3⟩
      have HSO := Lib.hid hso
      have HV3 := Lib.hid hv3.is
      have HK3 := Lib.hid (HK.out.below hb3)
      have HB3 := Lib.hid (HB.out.trans (hb3.mono HB.out.size))
      have hap : Apart bk v3 := Apart.own hv3 hltk
      have HAP := Lib.hid hap
      have HOU := Lib.hid (outAll (HK.out.below hb3) HI.out ⟨5, ⟨0, fa, ta, ka⟩⟩ rfl)
      simp only at HOU
      obtain ⟨ao3, cp3, rfl, hc3, hc4⟩ := hv3.is.shape
      clear hso hv3 hb3 hap
      go_wp2_with fail
      refine (HOU.out).mono ?_
      rintro e w4 ⟨v4, ids, err, up2, fr2, L2, rfl, hv4, hd4, hk4, hK4⟩
      have HV4 := Lib.hid hv4
      have HS4 := Lib.hid (HV3.out.keptB hK4 HAP.out HK3.out.map)
      have HB4 := Lib.hid (HB3.out.trans (hK4.below h1 h2 HB3.out.size))
      have HI4 := Lib.hid (hd4.inv HI.out)
      have HD4 := Lib.hid hd4
      have hM4 : ∀ x ∈ L2, x.id ≤ 9223372036854775807 := hd4.ids_le HM.out (by simp)
      have HSL4 := Lib.hid (slotsAny hk4 (fun s hs => ⟨(right_iff.1 (HI4.out.rt s hs)).1, hM4 s hs⟩) HI4.out.len)
      have HK4 := Lib.hid hk4
      obtain ⟨ao4, cp4, rfl, hc5, hc6⟩ := hv4.shape
      clear hv4 hd4 hk4 hK4 hM4
      go_wp2_with fail
      refine (HSL4.out).mono ?_
      rintro e w5 ⟨v5, S2, rfl, hso5, hv5, hb5⟩
      have HSO5 := Lib.hid hso5
      have HV5 := Lib.hid hv5.is
      have HG5 := Lib.hid (HV4.out.below hb5)
      have HS5 := Lib.hid (HS4.out.below hb5)
      have HK5 := Lib.hid (HK4.out.below hb5)
      have HB5 := Lib.hid (HB4.out.trans (hb5.mono HB4.out.size))
      obtain ⟨ao5, cp5, rfl, hc7, hc8⟩ := hv5.is.shape
      clear hso5 hv5 hb5
      rcases HD4.out.out_inv rfl with ⟨rfl, rfl, rfl, rfl, h6⟩ | ⟨rfl, ha6, hl6, hup6, G, dn, hg, hz, hp, hids, hfr⟩
      · have herr : (err != 0) = true := by
          have : err ≠ 0 := by rcases h6 with ⟨_, h⟩ | ⟨_, _, h⟩ <;> omega
          simpa using this
        have hSS := SortedOf.unique HSO5.out HSO.out HI.out.ids
        have HSA := Lib.hid (sameSlotsT HV5.out HS5.out hSS)
        clear h6 hSS
        simp only [List.length_nil]
        go_wp2_with fail
        refine (HSA.out).mono ?_
        rintro e w6 ⟨rfl, hb6⟩
        have HB6 := Lib.hid (HB5.out.trans (hb6.mono HB5.out.size))
        clear hb6
        go_wp2_with fail
        refine (knownYes _).mono ?_
        rintro e w7 ⟨rfl, hb7⟩
        have HB7 := Lib.hid (HB6.out.trans (hb7.mono HB6.out.size))
        clear hb7
        go_wp2_with fail
        go_ret
        exact ⟨rfl, HB7.out⟩
      · have hme : ∀ x, x ∈ ids ↔ x ∈ G := fun x => by rw [hids, List.mem_mergeSort]
        have hil : ids.length = G.length := by rw [hids, List.length_mergeSort]
        have hGL := hg.len HI.out.ids
        have hflt : S2 = S.filter fun x => !decide (x.id ∈ ids) := by
          rw [stay_filter HI.out.ids hg HSO.out HSO5.out]
          congr 1
          funext x
          congr 1
          rw [decide_eq_decide]
          exact (hme x.id).symm
        have hSl := HSO.out.len
        have hSl2 := HSO5.out.len
        have hL9 := HI.out.len
        have HFL := Lib.hid hflt
        clear ha6 hl6 hg hz hp hids hfr hme hflt
        obtain ⟨M, hM⟩ : ∃ M, M = S.length := ⟨_, rfl⟩
        obtain ⟨M2, hM2⟩ : ∃ M2, M2 = S2.length := ⟨_, rfl⟩
        obtain ⟨MG, hMG⟩ : ∃ MG, MG = ids.length := ⟨_, rfl⟩
        have hm1 : M2 + MG = M := by omega
        have hm2 : M ≤ 9000 := by omega
        rw [← hM] at hc3 ⊢
        rw [← hM2] at hc7 ⊢
        rw [← hMG] at hc5 ⊢
        have HM1 := Lib.hid hM
        have HM2 := Lib.hid hM2
        have HMG := Lib.hid hMG
        have hwm : IntKind.i64.wrap ((M2 : Int) + MG) = M := by rw [show (M2 : Int) + MG = M by omega]; exact small_wrap (by omega) (by omega)
        have HWM := Lib.hid hwm
        have HMS := Lib.hid hm1
        clear hGL hil hSl hSl2 hL9 hM hM2 hMG hup6 hwm hm1
        go_wp2_with fail
        go_loopw [18, 19] (fun nv i wr => ∃ q : Nat, q ≤ M ∧ i = .int .i64 q ∧ nv = .int .i64 ((S.take q).filter fun x => !decide (x.id ∈ ids)).length ∧ Below w5.heap.size w5 wr) (fun _ i _ => M - (intOf i).toNat)
        case atStart => exact ⟨0, by omega, rfl, by simp, Below.refl _ _⟩
        case round =>
          obtain ⟨q, hq, rfl, rfl, hb6⟩ := hrel
          have HB6 := Lib.hid hb6
          by_cases hqM : q < M
          · obtain ⟨b3, o3, c3, e3, _, _, hbb, hsl⟩ := slotAtV HS5.out (by rw [← HM1.out]; omega)
            obtain ⟨x1, x2, x3, x4, hx, y1, y2, y3, y4⟩ := hsl q (by rw [← HM1.out]; exact hqM)
            cases e3
            have hqq : (q : Int) < M := by omega
            have hflt := filter_take (S := S) (fun x => !decide (x.id ∈ ids)) (i := q) (by rw [← HM1.out]; exact hqM)
            rw [hx] at hflt
            have HFT := Lib.hid hflt
            have Y1 := Lib.hid y1
            have Y2 := Lib.hid y2
            have Y3 := Lib.hid y3
            have Y4 := Lib.hid y4
            have HX := Lib.hid hx
            generalize hnq : ((S.take q).filter fun x => !decide (x.id ∈ ids)).length = nq at *
            have HNQ := Lib.hid hnq
            clear hsl hflt y1 y2 y3 y4 hx hb6 hnq
            go_wp2_with fail
            go_loopw [20, 21] (fun ov j wr => ∃ (z : Nat) (o : Bool), z ≤ MG ∧ j = .int .i64 z ∧ ov = .bool o ∧ o = decide (x1 ∈ ids.take z) ∧ Below w5.heap.size w5 wr) (fun _ j _ => MG - (intOf j).toNat)
            case atStart => exact ⟨0, false, by omega, rfl, rfl, by simp, HB6.out⟩
            case round =>
              obtain ⟨z, o, hz, rfl, rfl, ho, hb7⟩ := hrel
              have HB7 := Lib.hid hb7
              have HO := Lib.hid ho
              clear ho
              have hSw : ∀ p u, w5.cell? ⟨b3, p, none⟩ = some u → wr.cell? ⟨b3, p, none⟩ = some u := fun p u hu => (HB7.out.cell (p := ⟨b3, p, none⟩) hbb).trans hu
              have k1 := hSw _ _ Y1.out
              have k2 := hSw _ _ Y2.out
              have k3 := hSw _ _ Y3.out
              have k4 := hSw _ _ Y4.out
              by_cases hzM : z < MG
              · obtain ⟨b4, o4, c4, e4, _, _, hbg, hgl⟩ := intAtV HG5.out (by rw [← HMG.out]; omega)
                obtain ⟨y, hy, m1⟩ := hgl z (by rw [← HMG.out]; exact hzM)
                cases e4
                have k5 : wr.cell? ⟨b4, o4 + z, none⟩ = some (.int .i64 y) := (HB7.out.cell (p := ⟨b4, o4 + z, none⟩) hbg).trans m1
                have hzz : (z : Int) < MG := by omega
                have hnx := mem_take_succ (G := ids) (j := z) (by rw [← HMG.out]; exact hzM) x1
                rw [hy, ← HO.out] at hnx
                have HNX := Lib.hid hnx
                clear hgl m1 hy hnx hSw hb7
                cases o
                · cases hc : (y == x1)
                  · go_wp2_with fail
                    go_quiet (fail)
                    go_wp2_with fail
                    go_roundw
                    case rel => exact ⟨z + 1, false, by omega, by go_num, rfl, by rw [HNX.out, hc]; rfl, below_drewN HB7.out _⟩
                    case measure => simp [intOf]; omega
                  · go_wp2_with fail
                    go_quiet (fail)
                    go_wp2_with fail
                    go_roundw
                    case rel => exact ⟨z + 1, true, by omega, by go_num, rfl, by rw [HNX.out, hc]; rfl, below_drewN HB7.out _⟩
                    case measure => simp [intOf]; omega
                · go_wp2_with fail
                  go_quiet (fail)
                  go_wp2_with fail
                  go_roundw
                  case rel => exact ⟨z + 1, true, by omega, by go_num, rfl, by rw [HNX.out]; rfl, below_drewN HB7.out _⟩
                  case measure => simp [intOf]; omega
              · obtain rfl : z = MG := by omega
                have hd5 : decide ((z : Int) < z) = false := by simp
                have hoo : o = decide (x1 ∈ ids) := by rw [HO.out, HMG.out, List.take_length]
                have hfl := HFT.out
                rw [← hoo] at hfl
                clear hoo hSw hb7
                cases o
                · obtain ⟨f1, f2, f3⟩ := hfl.1 rfl
                  rw [← HFL.out] at f2 f3
                  have HF1 := Lib.hid f1
                  obtain ⟨b6, o6, c6, e6, _, _, hbn, hnl⟩ := slotAtV HV5.out (by omega)
                  obtain ⟨a1, a2, a3, a4, hna, n1, n2, n3, n4⟩ := hnl nq f2
                  cases e6
                  rw [f3] at hna
                  cases hna
                  have j1 : wr.cell? ⟨b6, o6 + nq * 4, none⟩ = some (.int .i64 x1) := (HB7.out.cell (p := ⟨b6, o6 + nq * 4, none⟩) hbn).trans n1
                  have j2 : wr.cell? ⟨b6, o6 + nq * 4 + 1, none⟩ = some (.int .i64 x2) := (HB7.out.cell (p := ⟨b6, o6 + nq * 4 + 1, none⟩) hbn).trans n2
                  have j3 : wr.cell? ⟨b6, o6 + nq * 4 + 2, none⟩ = some (.int .i64 x3) := (HB7.out.cell (p := ⟨b6, o6 + nq * 4 + 2, none⟩) hbn).trans n3
                  have j4 : wr.cell? ⟨b6, o6 + nq * 4 + 3, none⟩ = some (.int .i64 x4) := (HB7.out.cell (p := ⟨b6, o6 + nq * 4 + 3, none⟩) hbn).trans n4
                  have hnM : nq < M2 := by rw [HM2.out]; exact f2
                  have hge : decide ((M2 : Int) ≤ nq) = false := by simp; omega
                  have hne : ∀ w, (binOp .neq 29 (.agg #[.int .i64 x1, .int .i64 x2, .int .i64 x3, .int .i64 x4]) (.agg #[.int .i64 x1, .int .i64 x2, .int .i64 x3, .int .i64 x4])).run Try.prog w = .ok (.bool false) w := fun w => by
                    have := neq29 ⟨x1, x2, x3, x4⟩ ⟨x1, x2, x3, x4⟩ w
                    unfold slotV at this
                    rw [this]
                    simp
                  have hgu := fun (w : World) (s u : Operand) => run_eqGuard_agg (P := Try.prog) w .neq 29 s u #[.int .i64 x1, .int .i64 x2, .int .i64 x3, .int .i64 x4] #[.int .i64 x1, .int .i64 x2, .int .i64 x3, .int .i64 x4] eqg29
                  clear f1 f2 f3 hnl n1 n2 n3 n4 hfl
                  go_wp2_with fail
                  go_quiet (fail)
                  go_wp2_with fail
                  go_roundw
                  case rel => exact ⟨q + 1, by omega, by go_num, by rw [HF1.out]; go_num, below_drewN HB7.out _⟩
                  case measure => simp [intOf]; omega
                · have f1 := hfl.2 rfl
                  have HF1 := Lib.hid f1
                  clear f1 hfl
                  go_wp2_with fail
                  go_roundw
                  case rel => exact ⟨q + 1, by omega, by go_num, by rw [HF1.out], HB7.out⟩
                  case measure => simp [intOf]; omega
          · obtain rfl : q = M := by omega
            have hd5 : decide ((q : Int) < q) = false := by simp
            have hall : ((S.take q).filter fun x => !decide (x.id ∈ ids)).length = M2 := by rw [HM1.out, List.take_length, ← HFL.out, HM2.out]
            rw [hall]
            have HST2 := Lib.hid (stepsAny (HK5.out.below hb6) (by have := HI4.out.flen; omega))
            have HB7 := Lib.hid (HB5.out.trans (hb6.mono HB5.out.size))
            have hwm2 := HWM.out
            have heq1 : ((M2 : Int) == M2) = true := by simp
            have heq2 : ((q : Int) == q) = true := by simp
            clear hall hb6
            go_wp2_with fail
            refine (HST2.out).mono ?_
            rintro e w8 ⟨⟨v8, rfl, hv8⟩, hb8⟩
            have HCK := Lib.hid (checkT hv8.is (chk_iff.2 HI4.out.vf))
            have HB8 := Lib.hid (HB7.out.trans (hb8.mono HB7.out.size))
            clear hv8 hb8
            go_wp2_with fail
            refine (HCK.out).mono ?_
            rintro e w9 ⟨rfl, hb9⟩
            have HB9 := Lib.hid (HB8.out.trans (hb9.mono HB8.out.size))
            clear hb9
            go_wp2_with fail
            refine (knownYes _).mono ?_
            rintro e w10 ⟨rfl, hb10⟩
            have HB10 := Lib.hid (HB9.out.trans (hb10.mono HB9.out.size))
            clear hb10
            go_wp2_with fail
            go_ret
            exact ⟨rfl, HB10.out⟩

end Go.Proofs.Ytjknmnmilladlaa
