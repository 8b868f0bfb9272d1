/-
  Walk: the book's Out.
-/
import Derived.Test.YtjknmnmilladlaaW26
import Derived.Test.YtjknmnmilladlaaP12
namespace Go.Proofs.Ytjknmnmilladlaa
open Go.RowKit

def OutPost (w : World) (bk bm : Nat) (n : Int) (L : List Slot) (up2 : List Step) (e : Ending) (w' : World) : Prop :=
  (1000 < up2.length ∧ e = .returned (.tuple #[.slice none 0 0, .int .i64 3]) ∧ Below w.heap.size w w') ∨
  (up2.length ≤ 1000 ∧ ∃ (v : Value) (G : List Int) (L2 dn : List Slot), e = .returned (.tuple #[v, .int .i64 0]) ∧ Gone up2 L G L2 ∧ HurtIs up2 L2 0 ∧ dn.Perm L2 ∧ BookIs w' bk bm n up2 (sumF up2 dn) L2 ∧ IsInts w' v (G.mergeSort fun x y => decide (x ≤ y)) ∧ Kept bk bm w w')

def mapSize (w : World) (b : Nat) : Nat := match w.heap[b]? with | some (.map es _) => es.size | _ => 0
theorem MapIs.size {w : World} {bm : Nat} {L : List Slot} (h : MapIs w bm L) : mapSize w bm = L.length := by
  obtain ⟨es, clock, hb, hE⟩ := h
  simp only [mapSize, hb]
  exact hE.len

def midN (up : List Step) (frm to : Int) (j : Nat) : List Int := ((stepT up).take j).filter fun a => decide (frm < a) && decide (a < to)
theorem midN_succ {up : List Step} {frm to : Int} {j : Nat} (h : j < up.length) : midN up frm to (j + 1) = midN up frm to j ++ if (decide (frm < atv up j) && decide (atv up j < to)) = true then [atv up j] else [] := by
  unfold midN
  rw [stepT_take up j h, List.filter_append]
  congr 1
  rw [List.filter_cons]
  split <;> simp_all
theorem length_midN (up : List Step) (frm to : Int) (j : Nat) : (midN up frm to j).length ≤ j := by
  unfold midN
  have := List.length_filter_le (fun a => decide (frm < a) && decide (a < to)) ((stepT up).take j)
  have h2 := List.length_take_le j (stepT up)
  omega
theorem midN_all (up : List Step) (frm to : Int) : midN up frm to up.length = midT up frm to := by
  unfold midN midT
  rw [List.take_of_length_le (by simp [stepT])]

set_option maxHeartbeats 8000000 in
set_option maxRecDepth 100000 in
theorem outMain {w : World} {bk bm : Nat} {n : Int} {up fr : List Step} {L : List Slot} (h : BookIs w bk bm n up fr L) (hI : Inv n up fr L) (frm to k : Int) (ha : outArg n frm to k = true) :
    Calls Try.prog 24 #[.pointer (some ⟨bk, 0, none⟩), .int .i64 frm, .int .i64 to, .int .i64 k] w (OutPost w bk bm n L (outUp up frm to k)) := by
  have hpos := hI.vu.pos
  have hul := hI.ul
  obtain ⟨vu, u1, u2, u3⟩ := h.c1
  have hvat := u2
  obtain ⟨b, off, cap, rfl, hnc, hcap, hbw, hA, hF, _⟩ := u2.cells hpos
  have c0 := h.c0
  have hlt := h.lt
  obtain ⟨N, hN⟩ : ∃ N, N = up.length := ⟨_, rfl⟩
  rw [← hN] at hA hF hnc hpos u1 hvat hul u3
  unfold outArg at ha
  simp only [Bool.and_eq_true] at ha
  obtain ⟨⟨⟨⟨t1, t2⟩, d1⟩, d2⟩, d3⟩ := ha
  have hlt1 : frm < to := by simpa using d1
  have T1 := Lib.hid t1
  have T2 := Lib.hid t2
  have HA := Lib.hid hA
  have HF := Lib.hid hF
  have HN := Lib.hid hN
  have HVU := Lib.hid hvat
  have HAP := Lib.hid u3
  have HI := Lib.hid hI
  have HH := Lib.hid h
  have e1 : decide (to ≤ frm) = false := by simpa using d1
  have e2 : decide (k < 1) = false := by simp at d2 ⊢; omega
  have e3 : decide (n < k) = false := by simp at d3 ⊢; omega
  have HLT := Lib.hid hlt1
  have HD2 := Lib.hid d2
  have HD3 := Lib.hid d3
  clear t1 t2 d1 d2 d3 hA hF hN hvat hI h u2 u3 hlt1
  obtain ⟨i0, hi, hz0, hz1, hz2⟩ := info_parts Try.info3
  go_enter Try.func24, Try.ntmps24
  go_wp2_with fail
  go_step3
  go_wp2_with fail
  refine (clockT frm _ T1.out).mono ?_
  rintro e w1 ⟨rfl, rfl⟩
  go_wp2_with fail
  refine (clockT to _ T2.out).mono ?_
  rintro e w1 ⟨rfl, rfl⟩
  go_wp2_with fail
  go_loopw [10, 56] (fun o i wr => ∃ j : Nat, j ≤ N ∧ i = .int .i64 j ∧ Below w.heap.size w wr ∧ OwnInts wr w.heap.size o (frm :: midN up frm to j)) (fun _ i _ => N - (intOf i).toNat)
  case atStart =>
    refine ⟨0, by omega, rfl, (Below.refl _ _).alloc (Nat.le_refl _) _, ?_⟩
    exact World.ownsRow_lit (e := 3) (size := 1) w #[.int .i64 frm] 1 (Nat.le_refl _) (by unfold maxLen; omega) rfl
  case round =>
    obtain ⟨j, hj, rfl, hb, hown⟩ := hrel
    have HOWN := Lib.hid hown
    have HB := Lib.hid hb
    have hlt2 : w.heap.size ≤ wr.heap.size := hb.size
    by_cases hjN : j < N
    · have hAk : wr.cell? ⟨b, off + j * 2, none⟩ = some (.int .i64 (atv up j)) := (hb.cell (p := ⟨b, off + j * 2, none⟩) hbw).trans (HA.out j hjN)
      have hFk : wr.cell? ⟨b, off + j * 2 + 1, none⟩ = some (.int .i64 (frv up j)) := (hb.cell (p := ⟨b, off + j * 2 + 1, none⟩) hbw).trans (HF.out j hjN)
      have hsucc := midN_succ (frm := frm) (to := to) (show j < up.length by rw [← HN.out]; exact hjN)
      have hln := length_midN up frm to j
      have hjj : (j : Int) < N := by omega
      clear hb hown
      generalize atv up j = aj at *
      generalize frv up j = fj at *
      cases x1 : decide (frm < aj)
      · have hx : midN up frm to (j + 1) = midN up frm to j := by rw [hsucc, x1]; simp
        have HX := Lib.hid hx
        clear hx hsucc
        go_wp2_with fail
        go_roundw
        case rel => exact ⟨j + 1, by omega, by go_num, HB.out.alloc hlt2 _, by rw [HX.out]; exact HOWN.out.alloc _⟩
        case measure => simp [intOf]; omega
      cases x2 : decide (aj < to)
      · have hx : midN up frm to (j + 1) = midN up frm to j := by rw [hsucc, x2]; simp
        have HX := Lib.hid hx
        clear hx hsucc
        go_wp2_with fail
        go_roundw
        case rel => exact ⟨j + 1, by omega, by go_num, HB.out.alloc hlt2 _, by rw [HX.out]; exact HOWN.out.alloc _⟩
        case measure => simp [intOf]; omega
      · have hx : midN up frm to (j + 1) = midN up frm to j ++ [aj] := by rw [hsucc, x1, x2]; simp
        have HX := Lib.hid hx
        clear hx hsucc
        generalize hlst : midN up frm to j = lst at *
        have hlz : (frm :: lst).length ≤ 40000 := by simp; omega
        have HOW := HOWN.out
        unfold OwnInts at HOW
        have HOW := Lib.hid HOW
        generalize hl2 : frm :: lst = l2 at *
        generalize l2.length = ln at *
        go_wp2_with (at_builtin; refine wpList_append_own _ rfl (.tmp 70) (.tmp 73) 42 rfl w.heap.size 3 i0 _ 1 8 Try.underlying42 hi hz0 hz1 hz2 rfl (by decide) _ _ _ rfl (by exact (HOW.out.alloc _).alloc _) ⟨wr.heap.size + 1, 0, none⟩ 1 1 [.int .i64 aj] rfl rfl (news_at _ _ (by simp) #[.int .i64 aj] 3) (by simp [Value.oneCell']) (by unfold maxLen; omega) (by omega) (by simp; omega) ?_)
        intro v' w3 hown3 hgrow hnil
        have HO3 := Lib.hid hown3
        have HG := Lib.hid hgrow
        clear hown3 hnil hgrow
        go_wp2_with fail
        go_roundw
        case rel =>
          have hB3 : Below w.heap.size w w3 := ((HB.out.alloc hlt2 _).alloc (by simp; omega) _).grown HG.out (by simp; omega) (fun g hg => ((World.ownsRow.lt HOW.out) g hg).1)
          refine ⟨j + 1, by omega, by go_num, hB3, ?_⟩
          rw [HX.out, ← List.cons_append, hl2]
          exact own_int1 HO3.out
        case measure => simp [intOf]; omega
    · obtain rfl : j = N := by omega
      have hd3 : decide ((j : Int) < j) = false := by simp
      have hmid := midN_all up frm to
      rw [← HN.out] at hmid
      rw [hmid] at hown
      have hln := length_midN up frm to j
      rw [hmid] at hln
      have hT : frm :: midT up frm to ++ [to] = outT up frm to := rfl
      have HT := Lib.hid hT
      obtain ⟨M, hM⟩ : ∃ M, (outT up frm to).length = M + 1 := ⟨(outT up frm to).length - 1, by have := outT_len up frm to; omega⟩
      have hM2 : 1 ≤ M ∧ M ≤ 1001 := by
        have := outT_len up frm to
        rw [← HN.out] at this
        omega
      have HM := Lib.hid hM
      have hlz : (frm :: midT up frm to).length ≤ 40000 := by simp; omega
      have HOW := hown
      unfold OwnInts at HOW
      have HOW := Lib.hid HOW
      have c1r : wr.cell? ⟨bk, 1, none⟩ = some (.slice (some ⟨b, off, none⟩) j cap) := (hb.cell (p := ⟨bk, 1, none⟩) hlt).trans u1
      clear hb hown hmid hT hM hln HOWN
      generalize hl2 : frm :: midT up frm to = l2 at *
      generalize l2.length = ln at *
      have HL2 := Lib.hid hl2
      clear hl2
      go_wp2_with (at_builtin; refine wpList_append_own _ rfl (.tmp 76) (.tmp 78) 42 rfl w.heap.size 3 i0 _ 1 8 Try.underlying42 hi hz0 hz1 hz2 rfl (by decide) _ _ _ rfl (by exact HOW.out.alloc _) ⟨wr.heap.size, 0, none⟩ 1 1 [.int .i64 to] rfl rfl (news_at _ _ rfl #[.int .i64 to] 3) (by simp [Value.oneCell']) (by unfold maxLen; omega) (by omega) (by simp; omega) ?_)
      intro v' w3 hown3 hgrow hnil
      have hB3 : Below w.heap.size w w3 := (HB.out.alloc hlt2 _).grown hgrow (by simp; omega) (fun g hg => ((World.ownsRow.lt HOW.out) g hg).1)
      have hO3 : OwnInts w3 w.heap.size v' (outT up frm to) := by rw [← HT.out]; exact own_int1 hown3
      have HB3 := Lib.hid hB3
      have hIs := hO3.is
      have HO3 := Lib.hid hO3
      obtain ⟨g, og, cg, rfl, hc1, hc2, hgw, hTs, _⟩ := hIs.cells (by rw [HM.out]; omega)
      rw [HM.out] at hc1 hTs
      rw [HM.out]
      have HTS := Lib.hid hTs
      have c1w : w3.cell? ⟨bk, 1, none⟩ = some (.slice (some ⟨b, off, none⟩) j cap) := (hB3.cell (p := ⟨bk, 1, none⟩) hlt).trans u1
      have hl3 : w.heap.size ≤ w3.heap.size := hB3.size
      clear hown3 hgrow hnil hB3 hO3 hIs hTs c1r
      go_wp2_with fail
      have hI1 := HI.out
      have hkk : 1 ≤ k ∧ k ≤ 10000 := by
        have h1 := HD2.out
        have h2 := HD3.out
        have h3 := hI1.n1
        simp at h1 h2
        omega
      have hok := out_ok (k := k) hI1.vu hI1.ul (isT_iff.1 T1.out).1 HLT.out (isT_iff.1 T2.out).2 hkk
      have hcur := atOf_range hI1.vu
      rw [HM.out] at hok
      have HOK := Lib.hid hok
      have HCUR := Lib.hid hcur
      have HVU3 := Lib.hid (HVU.out.below HB3.out)
      have houp : outUp up frm to k = outN up (outT up frm to) k M := by unfold outUp; rw [HM.out]; rfl
      have HOUP := Lib.hid houp
      clear hok hcur hI1 houp
      generalize outT up frm to = ts at *
      go_loopw [13, 90] (fun v i wr => ∃ j2 : Nat, j2 ≤ M ∧ i = .int .i64 j2 ∧ Below w3.heap.size w3 wr ∧ IsSteps wr v (outN up ts k j2) ∧ Apart bk v) (fun _ i _ => M - (intOf i).toNat)
      case atStart => exact ⟨0, by omega, rfl, Below.refl _ _, HVU3.out, HAP.out⟩
      case round =>
        obtain ⟨j2, hj2, rfl, hb4, hst, hap⟩ := hrel
        have HAP2 := Lib.hid hap
        clear hap
        have HB4 := Lib.hid hb4
        have HST := Lib.hid hst
        have hl4 : w3.heap.size ≤ wr.heap.size := hb4.size
        by_cases hjM : j2 < M
        · have q1 : wr.cell? ⟨g, og + j2, none⟩ = some (.int .i64 (inv ts j2)) := (hb4.cell (p := ⟨g, og + j2, none⟩) hgw).trans (HTS.out j2 (by omega))
          have q2 : wr.cell? ⟨g, og + (j2 + 1), none⟩ = some (.int .i64 (inv ts (j2 + 1))) := (hb4.cell (p := ⟨g, og + (j2 + 1), none⟩) hgw).trans (HTS.out (j2 + 1) (by omega))
          have q3 : wr.cell? ⟨bk, 1, none⟩ = some (.slice (some ⟨b, off, none⟩) j cap) := (hb4.cell (p := ⟨bk, 1, none⟩) (Nat.lt_of_lt_of_le hlt hl3)).trans c1w
          have hjj2 : (j2 : Int) < M := by omega
          have hjj3 : (j2 : Int) + 1 < (M : Int) + 1 := by omega
          have hjj4 : ((j2 : Int) + 1).toNat = j2 + 1 := by omega
          have hjj5 : (0 : Int) ≤ (j2 : Int) + 1 := by omega
          have hwr := small_wrap (a := (j2 : Int) + 1) (by omega) (by omega)
          have hae := (HOK.out j2 (by omega)).2 (by omega)
          have hav := HCUR.out (inv ts j2)
          obtain ⟨kk, hkk2⟩ : ∃ kk, kk = outK up k (inv ts j2) := ⟨_, rfl⟩
          have hres : addRes (outN up ts k j2) (inv ts j2) (inv ts (j2 + 1)) (-kk) = outN up ts k (j2 + 1) := by rw [hkk2]; rfl
          rw [← hkk2] at hae
          unfold outK at hkk2
          have HAE := Lib.hid hae
          have HRES := Lib.hid hres
          have HVW := Lib.hid (HVU3.out.below hb4)
          clear hae hres hb4 hst
          generalize inv ts j2 = t at *
          generalize inv ts (j2 + 1) = t9 at *
          have HAA := Lib.hid (fun (w0 : World) (h0 : IsSteps w0 (.slice (some ⟨b, off, none⟩) j cap) up) => atAny h0 t)
          generalize atOf up t = at1 at *
          have hneg : IntKind.i64.wrap (-(min k at1)) = -kk := by rw [← hkk2]; exact neg_wrap ⟨by omega, by omega⟩
          clear hkk2 hav
          have hbk3 : bk < wr.heap.size := Nat.lt_of_lt_of_le (Nat.lt_of_lt_of_le hlt hl3) hl4
          have hg3 : g < wr.heap.size := Nat.lt_of_lt_of_le hgw hl4
          have HST2 := Lib.hid (HST.out.below ((Below.refl _ _).drew))
          have HVW2 := Lib.hid (HVW.out.below ((Below.refl _ _).drew))
          clear HST HVW
          go_wp2_with fail
          go_region_held3 (fun w' => w'.cell? ⟨bk, 1, none⟩ = some (.slice (some ⟨b, off, none⟩) j cap) ∧ w'.cell? ⟨g, og + (j2 + 1), none⟩ = some (.int .i64 t9)) (first | go_keep | exact ⟨k1, k2⟩ | exact ⟨k3, k4⟩) ((first | (go_at_call 21; refine (HAA.out _ HVW2.out).mono ?_; rintro e w5 ⟨rfl, hb5⟩; have k1 := cell_thru hb5 (w := wr.drew) q3; have k2 := cell_thru hb5 (w := wr.drew) q2; have HST3 := Lib.hid (HST2.out.below hb5); have HB5 := Lib.hid hb5; clear hb5) | (go_at_call 44; refine (addEq HST3.out HAE.out HRES.out).mono ?_; rintro e w6 ⟨⟨v6, rfl, hv6⟩, hb6⟩; obtain ⟨ao6, cp6, rfl, _, _⟩ := IsRow.shape hv6.is; have k3 := cell_thru hb6 k1; have k4 := cell_thru hb6 k2; have HV6 := Lib.hid hv6; have HB6 := Lib.hid hb6; clear hv6 hb6)))
          go_wp2_with fail
          go_roundw
          case rel =>
            have hB6 : Below w3.heap.size w3 w6 := (HB4.out.drew.trans (HB5.out.mono hl4)).trans (HB6.out.mono (Nat.le_trans hl4 HB5.out.size))
            exact ⟨j2 + 1, by omega, by go_num, hB6, HV6.out.is, Apart.own HV6.out (Nat.lt_of_lt_of_le hbk3 HB5.out.size)⟩
          case measure => simp [intOf]; omega
        · obtain rfl : j2 = M := by omega
          have hd5 : decide ((j2 : Int) < j2) = false := by simp
          obtain ⟨ao, cu, rfl, hu1, hu2⟩ := IsRow.shape hst
          have HB7 := Lib.hid (HB3.out.trans (hb4.mono hl3))
          rw [← HOUP.out] at hst
          have HST := Lib.hid hst
          have hlen : (outN up ts k j2).length = (outUp up frm to k).length := by rw [HOUP.out]
          rw [hlen] at hu1 ⊢
          have HLEN := Lib.hid hlen
          generalize hup2 : outUp up frm to k = up2 at *
          have HUP2 := Lib.hid hup2
          clear hst hb4 hlen hup2
          by_cases hlong : 1000 < up2.length
          · have hd7 : decide ((1000 : Int) < up2.length) = true := by simp; omega
            go_wp2_with fail
            rw [Exit.noGoto_ret]
            go_ret2
            exact .inl ⟨hlong, rfl, HB7.out⟩
          · have hd7 : decide ((1000 : Int) < up2.length) = false := by simp; omega
            have c1x : wr.cell? ⟨bk, 1, none⟩ = some (.slice (some ⟨b, off, none⟩) j cap) := (HB7.out.cell (p := ⟨bk, 1, none⟩) hlt).trans u1
            have HH7 := Lib.hid (HH.out.below HB7.out)
            have g1 := HH7.out.fz 1
            have A1 : Apart bk (.slice ao up2.length cu) := by have := HAP2.out; rwa [HLEN.out] at this
            have HK8 := Lib.hid (HH7.out.setUp HST.out A1)
            have HP8 := Lib.hid ((Kept.of_below (bk := bk) (bm := bm) HB7.out).set 1 (.slice ao up2.length cu))
            have hv2 : Valid up2 := by
              have hkk1 := hkk
              rw [← HUP2.out]
              exact (outUp_ok HI.out.vu HI.out.ul (isT_iff.1 T1.out).1 HLT.out (isT_iff.1 T2.out).2 hkk1).1
            have HV2 := Lib.hid hv2
            clear A1 hv2
            go_wp2_with fail
            go_step3
            go_wp2_with fail
            obtain ⟨B3, hB3⟩ : ∃ B3, B3 = wr.heap.size := ⟨_, rfl⟩
            have hsz3 : (wr.setCell ⟨bk, 1, none⟩ (.slice ao up2.length cu)).heap.size = B3 := by simp [World.setCell, hB3]
            have HA3 := Lib.hid (show ∀ X, B3 ≤ X → AwayB (wr.setCell ⟨bk, 1, none⟩ (.slice ao up2.length cu)) bk X from fun X hX => HK8.out.away (by rw [hsz3]; exact hX))
            have hwB : w.heap.size ≤ B3 := by rw [hB3]; exact HB7.out.size
            have hbkB : bk < B3 := Nat.lt_of_lt_of_le hlt hwB
            have hbmB : bm < B3 := Nat.lt_of_lt_of_le HH.out.map.lt hwB
            have HSZ3 := Lib.hid hsz3
            clear hB3 hsz3
            go_loopw [18] (fun gv wr => ∃ G L1, BookIs wr bk bm n up2 fr L1 ∧ Gone up2 L G L1 ∧ OwnInts wr B3 gv G ∧ Kept bk bm w wr ∧ B3 ≤ wr.heap.size ∧ ∀ X, B3 ≤ X → AwayB wr bk X) (fun _ wr => mapSize wr bm)
            case atStart => exact ⟨[], L, HK8.out, Gone.nil, World.ownsRow_nil _ _ _ _, HP8.out, Nat.le_of_eq HSZ3.out.symm, HA3.out⟩
            case round =>
              obtain ⟨G, L1, hBk, hG, hO, hKp, hBs, hAw⟩ := hrel
              have HBK := Lib.hid hBk
              have HG := Lib.hid hG
              have HO := Lib.hid hO
              have HKP := Lib.hid hKp
              have HAW := Lib.hid hAw
              have hsub := hG.sub
              have hGL := hG.len HI.out.ids
              have HGL := Lib.hid hGL
              have hnd : ∀ s ∈ L1, 1 ≤ s.nodes ∧ s.nodes ≤ 10000 := fun s hs => HI.out.nodes s (hsub.subset hs)
              have hL9 : L1.length ≤ 9000 := Nat.le_trans hsub.length_le HI.out.len
              have HMS := Lib.hid (show mapSize _ bm = L1.length from hBk.map.size)
              have HOV := Lib.hid (overAny hBk HV2.out.pos (by omega) hL9 hnd (atOf_range HV2.out))
              clear hBk hG hO hKp hsub hnd hAw hGL
              go_wp2_with fail
              refine (HOV.out).mono ?_
              rintro e w5 ⟨⟨v5, ts5, rfl, hts5, ho5⟩, hb5⟩
              have hB5 := HBK.out.below hb5
              have hpos5 : 0 < (ts5.map fun t => (⟨t, loadOf L1 t - atOf up2 t⟩ : Step)).length := by
                have h0 : atv up2 0 ∈ ts5 := by
                  rw [hts5, List.mem_append]
                  left
                  unfold stepT
                  rw [List.mem_map]
                  exact ⟨up2[0]'HV2.out.pos, List.getElem_mem HV2.out.pos, by rw [stepAt up2 0 HV2.out.pos]⟩
                simpa using List.length_pos_of_mem h0
              have HHU := Lib.hid (hurtAny hB5 ho5.is hpos5)
              have hhi : HurtIs up2 L1 (hurtOf (ts5.map fun t => (⟨t, loadOf L1 t - atOf up2 t⟩ : Step)) L1) := ⟨ts5, hts5, rfl⟩
              generalize hurtOf (ts5.map fun t => (⟨t, loadOf L1 t - atOf up2 t⟩ : Step)) L1 = id at *
              have HHI := Lib.hid hhi
              have HB5 := Lib.hid hB5
              have HO5 := Lib.hid (owns_below HO.out hb5 : OwnInts _ B3 _ G)
              have HK5 := Lib.hid (HKP.out.trans (Kept.of_below hb5))
              have HA5 := Lib.hid (show ∀ X, B3 ≤ X → AwayB w5 bk X from fun X hX => (HAW.out X hX).below hb5 HBK.out.lt)
              have hs5 : B3 ≤ w5.heap.size := Nat.le_trans hBs hb5.size
              clear hb5 hB5 hpos5 hhi ho5 hts5
              go_wp2_with fail
              refine (HHU.out).mono ?_
              rintro e w6 ⟨rfl, hb6⟩
              have HB6 := Lib.hid (HB5.out.below hb6)
              have HO6 := Lib.hid (owns_below HO5.out hb6 : OwnInts _ B3 _ G)
              have HK6 := Lib.hid (HK5.out.trans (Kept.of_below hb6))
              have HA6 := Lib.hid (show ∀ X, B3 ≤ X → AwayB w6 bk X from fun X hX => (HA5.out X hX).below hb6 HB5.out.lt)
              have hs6 : B3 ≤ w6.heap.size := Nat.le_trans hs5 hb6.size
              clear hb6
              by_cases hz : id = 0
              · have hd9 : (id == 0) = true := by simpa using hz
                subst hz
                have HSU := Lib.hid (sumAny HB6.out (by omega) (fun s hs => HI.out.nodes s (HG.out.sub.subset hs)))
                go_wp2_with fail
                refine (HSU.out).mono ?_
                rintro e w7 ⟨rfl, ⟨dn, hdn, hb7⟩, hk7, haw7⟩
                have hO7 := OwnInts.keptB HO6.out hk7 hbkB hbmB
                have HO7 := Lib.hid hO7
                have HB7' := Lib.hid hb7
                have HK7 := Lib.hid hk7
                have HA7 := Lib.hid haw7
                have HDN := Lib.hid hdn
                have hGlen : G.length < 4611686018427387904 := by
                  have h1 := HGL.out
                  have h2 := HI.out.len
                  omega
                have HSO := Lib.hid (sortIntsG hO7 hGlen)
                clear hO7 hb7 hk7 haw7 hdn
                go_wp2_with fail
                refine (HSO.out).mono ?_
                rintro e w8 ⟨rfl, hO8, hg8⟩
                have HO8 := Lib.hid hO8
                have HG8 := Lib.hid hg8
                obtain ⟨ao8, cp8, hv8, _, _⟩ := IsRow.shape hO8.is
                rw [List.length_mergeSort] at hv8
                subst hv8
                clear hO8 hg8
                go_wp2_with fail
                rw [Exit.noGoto_ret]
                go_ret2
                have hfar := own_far HO7.out hbkB hbmB
                have hB8 := HB7'.out.grownOwn HG8.out hfar.1 hfar.2.1 (fun g hg => HA7.out g (World.ownsRow.lt HO6.out g hg).2 (HA6.out g (hfar.2.2 g hg)))
                have hK8 := (HK6.out.trans HK7.out).grownOwn HG8.out (fun g hg => Nat.le_trans hwB (hfar.2.2 g hg))
                exact .inr ⟨by omega, _, G, L1, dn, rfl, HG.out, HHI.out, HDN.out, hB8, HO8.out.is, hK8⟩
              · have hd9 : (id == 0) = false := by simpa using hz
                obtain ⟨s, hs, hsid⟩ := HHI.out.mem hz
                have HSI := Lib.hid hsid
                have HS := Lib.hid hs
                have c36 := HB6.out.c3
                clear hs hsid hz
                go_wp2_with (at_delete; refine wp_del _ rfl _ _ rfl bm L1 id rfl rfl HB6.out.map ?_)
                intro w7 hm7 ht7
                replace hm7 : MapIs w7 bm (without L1 id) := by unfold without; simpa using hm7
                have hne7 : bk ≠ bm := HB6.out.ne
                have HB7' := Lib.hid (HB6.out.turned ht7 hm7)
                have HK7 := Lib.hid (HK6.out.turned ht7)
                have HO7 := Lib.hid (OwnInts.keptB HO6.out ((Kept.refl bk bm _).turned ht7) hbkB hbmB)
                have HA7 := Lib.hid (show ∀ X, B3 ≤ X → AwayB w7 bk X from fun X hX => (HA6.out X hX).turned HB6.out.lt HB6.out.ne ht7)
                have hs7 : B3 ≤ w7.heap.size := Nat.le_trans hs6 ht7.grown.size
                clear hm7 ht7 hne7 c36
                have HOW := HO7.out
                unfold OwnInts at HOW
                have HOW := Lib.hid HOW
                have hlz : G.length ≤ 40000 := by
                  have h1 := HGL.out
                  have h2 := HI.out.len
                  omega
                obtain ⟨gn, hgn⟩ : ∃ gn, gn = G.length := ⟨_, rfl⟩
                rw [← hgn] at hlz HOW
                have HGN := Lib.hid hgn
                clear hgn
                go_wp2_with (at_builtin; refine wpList_append_own _ rfl (.tmp 138) (.tmp 140) 42 rfl B3 3 i0 _ 1 8 Try.underlying42 hi hz0 hz1 hz2 rfl (by decide) _ _ _ rfl (by exact (HOW.out.alloc _)) ⟨w7.heap.size, 0, none⟩ 1 1 [.int .i64 id] rfl rfl (news_at _ _ rfl #[.int .i64 id] 3) (by simp [Value.oneCell']) (by unfold maxLen; omega) (by omega) (by simp; omega) ?_)
                intro v' w8 hown8 hgrow hnil
                have HO8 := Lib.hid hown8
                have HG8 := Lib.hid hgrow
                clear hown8 hgrow hnil
                go_wp2_with fail
                go_roundw
                case rel =>
                  have hfar := own_far HO7.out hbkB hbmB
                  have hB8 := (HB7'.out.alloc (.cells #[.int .i64 id] 3)).grownOwn HG8.out hfar.1 hfar.2.1 (fun g hg => (HA7.out g (hfar.2.2 g hg)).below ((Below.refl _ _).alloc (Nat.le_refl _) _) HB7'.out.lt)
                  have hK8 := (HK7.out.alloc (.cells #[.int .i64 id] 3)).grownOwn HG8.out (fun g hg => Nat.le_trans hwB (hfar.2.2 g hg))
                  refine ⟨G ++ [id], without L1 id, hB8, ?_, ?_, hK8, ?_, fun X hX => ?_⟩
                  · have := Gone.snoc HG.out HS.out (by rw [HSI.out]; exact HHI.out)
                    rwa [HSI.out] at this
                  · have := HO8.out
                    rw [HGN.out] at this
                    exact own_int1 this
                  · have := HG8.out.size
                    simp at this
                    omega
                  · exact ((HA7.out X hX).below ((Below.refl _ _).alloc (Nat.le_refl _) (.cells #[.int .i64 id] 3)) HB7'.out.lt).grownOwn (by simp; exact Nat.lt_succ_of_lt HB7'.out.lt) HG8.out hfar.1
                case measure =>
                  have hfar := own_far HO7.out hbkB hbmB
                  have hB8 := (HB7'.out.alloc (.cells #[.int .i64 id] 3)).grownOwn HG8.out hfar.1 hfar.2.1 (fun g hg => (HA7.out g (hfar.2.2 g hg)).below ((Below.refl _ _).alloc (Nat.le_refl _) _) HB7'.out.lt)
                  rw [hB8.map.size, HMS.out, ← HSI.out]
                  exact without_lt HS.out

end Go.Proofs.Ytjknmnmilladlaa
