/-
  Walks: steps.Add, where something is added for a while.
-/
import Derived.Test.YtjknmnmilladlaaW8
import Derived.Test.YtjknmnmilladlaaP4
import Derived.Deep.RegionHeld3
namespace Go.Proofs.Ytjknmnmilladlaa
open Go.RowKit

theorem IsSteps.sub {w : World} {b off cap : Nat} {l : List Step} (hcap : cap ≤ maxLen) (hR : RowAt w b off (flatS l)) (j : Nat) (hj : j ≤ l.length) (hc : l.length ≤ cap) : IsSteps w (.slice (some ⟨b, off, none⟩) j cap) (l.take j) := by
  have hl : (l.take j).length = j := by simp; omega
  refine ⟨length_flatS _, some ⟨b, off, none⟩, cap, by rw [hl], by omega, hcap, fun _ => ⟨b, off, rfl, fun i u hu => hR i u ?_⟩⟩
  have e : flatS l = flatS (l.take j) ++ flatS (l.drop j) := by rw [← flatS_append, List.take_append_drop]
  rw [e]
  rw [List.getElem?_append_left (List.getElem?_eq_some_iff.1 hu).1]
  exact hu

theorem own_of {g n c k : Nat} (h : (Value.slice (some ⟨g, 0, none⟩) n c).ownBlock = some k) : g = k := by simpa [Value.ownBlock] using h
theorem lt_alloc {w : World} {o : Obj} {b : Nat} (h : b < w.heap.size) : b < (w.alloc o).heap.size := by simp; omega
theorem lt_alloc' {w : World} {o : Obj} {b : Nat} (h : b ≤ w.heap.size) : b < (w.alloc o).heap.size := by simp; omega

theorem clockF (t : Int) (w : World) (h : isT t = false) :
    Calls Try.prog 40 #[.int .i64 t] w fun e w' => e = .returned (.bool false) ∧ w = w' := (clockIsF t w h).mono fun _ _ ⟨h1, h2⟩ => ⟨h1, h2.symm⟩
theorem clockT (t : Int) (w : World) (h : isT t = true) :
    Calls Try.prog 40 #[.int .i64 t] w fun e w' => e = .returned (.bool true) ∧ w = w' := (clockIsT t w h).mono fun _ _ ⟨h1, h2⟩ => ⟨h1, h2.symm⟩

set_option maxHeartbeats 8000000 in
set_option maxRecDepth 100000 in
theorem addMain {w : World} {v : Value} {l : List Step} (h : IsSteps w v l) (hc : chk l = true) (frm to k : Int) (hp : pOk frm to k = true) (hne : frm < to) :
    Calls Try.prog 44 #[v, .int .i64 frm, .int .i64 to, .int .i64 k] w (AddPost l frm to k w) := by
  have hv := chk_iff.1 hc
  have HC := checkAny h
  rw [hc] at HC
  have HC := Lib.hid HC
  have e0 : errOf true = 0 := rfl
  have h1 : isT frm = true := by simp [pOk] at hp; exact hp.1.1.1.1
  have h2 : isT to = true := by simp [pOk] at hp; exact hp.1.1.1.2
  have h3 : -10000 ≤ k ∧ k ≤ 10000 := by simp [pOk] at hp; omega
  have hf := isT_iff.1 h1
  have ht := isT_iff.1 h2
  have hd0 : decide (to < frm) = false := by simp; omega
  have hd1 : (frm == to) = false := by simp; omega
  have hd2 : decide (k < -10000) = false := by simp; omega
  have hd3 : decide (10000 < k) = false := by simp; omega
  have HCH := Lib.hid hc
  have HP := Lib.hid hp
  have HV := Lib.hid hv
  have HH := Lib.hid h
  obtain ⟨b, off, cap, rfl, hnc, hcap, hbw, hA, hF, hRow⟩ := h.cells hv.pos
  have HA := Lib.hid hA
  have HF := Lib.hid hF
  have HROW := Lib.hid hRow
  have hlen := hv.len
  clear h hc hv hp hA hF hRow
  obtain ⟨hf0, hf1⟩ := hf
  obtain ⟨ht0, ht1⟩ := ht
  go_enter Try.func44, Try.ntmps44
  go_wp2_with fail
  refine (HC.out).mono ?_
  rintro e w1 ⟨rfl, hb1⟩
  have hcut := cutAny (HH.out.below hb1) HV.out frm to hf0 hf1 hne ht1
  have HCUT := Lib.hid hcut
  have HB := Lib.hid hb1; clear hb1 hcut
  go_wp2_with fail
  refine (clockT frm _ h1).mono ?_
  rintro e w2 ⟨rfl, rfl⟩
  go_wp2_with fail
  refine (clockT to _ h2).mono ?_
  rintro e w2 ⟨rfl, rfl⟩
  go_wp2_with fail
  refine (HCUT.out).mono ?_
  rintro e w3 ⟨vi, rfl, hown, hb3⟩
  have hB3 := HB.out.trans (hb3.mono HB.out.size)
  have hcl := HV.out.cutL_len hf0 hne
  obtain ⟨gi, offi, capi, rfl, hci0, hci1, hgi, hx1, hx2, hx3⟩ := (OwnSteps.is hown).cells hcl.1
  have hgi2 := ((World.ownsRow.lt hown) gi rfl).1
  have hoff : offi = 0 := by
    rcases hown.2 with ⟨h', _⟩ | ⟨g', cap', cur, h', _⟩
    · simp at h'
    · simp at h'; exact h'.1.2
  subst hoff
  unfold maxLen at hci1
  have hw3 := hB3.size
  have HB3 := Lib.hid hB3
  have HO := Lib.hid hown
  clear hB3 hown hb3 HCUT HC hx1 hx2 hx3
  have hw1 := HB.out.size
  generalize hm : (cutL l frm to).length = m at *
  have HM := Lib.hid hm; clear hm
  obtain ⟨hm0, hm1⟩ := hcl
  go_wp2_with fail
  go_loopw [56] (fun i wr => ∃ j : Nat, j ≤ m ∧ i = .int .i64 j ∧ Below w.heap.size w wr ∧ wr.ownsRow w1.heap.size 38 2 (.slice (some ⟨gi, 0, none⟩) m capi) m (flatS (addN (cutL l frm to) k j)) ∧ (∀ x, x < j → inRange (frv (cutL l frm to) x + k) = true)) (fun i _ => m - (intOf i).toNat)
  case atStart => exact ⟨0, by omega, rfl, HB3.out, by rw [addN_zero]; have := HO.out; unfold OwnSteps at this; rw [HM.out] at this; exact this, by omega⟩
  case round =>
    obtain ⟨j, hj, rfl, hb, hown, hall⟩ := hrel
    have HALL := Lib.hid hall; clear hall
    have HOW := Lib.hid hown
    have HBR := Lib.hid hb
    have hwr := hb.size
    have hgr := ((World.ownsRow.lt hown) gi rfl).2
    by_cases hjm : j < m
    · have hat := addN_at (cutL l frm to) k j (by rw [HM.out]; exact hjm)
      have hcF := flatS_fr (addN (cutL l frm to) k j) j (by rw [length_addN, HM.out]; exact hjm)
      rw [hat.2] at hcF
      have hcell := hown.cellAt (j * 2 + 1) (by omega)
      rw [hcF] at hcell
      have hfz := hown.frozenAt (j * 2 + 1)
      have hst := hown.stored (j * 2 + 1) (.int .i64 (frv (cutL l frm to) j + k))
      have hvf : 0 ≤ frv (cutL l frm to) j ∧ frv (cutL l frm to) j ≤ 10000 := HV.out.cutL_fr hf0 hne (by rw [HM.out]; exact hjm)
      generalize hfj : frv (cutL l frm to) j = fj at *
      have HST := Lib.hid hst
      have HFJ := Lib.hid hfj
      clear hst hown hb hat hcF hfj
      obtain ⟨hvf0, hvf1⟩ := hvf
      by_cases hr1 : fj + k < 0
      · have hno : addErr l frm to k = 70 := by
          have : (cutL l frm to).all (fun s => inRange (s.free + k)) = false := all_inRange_no (by rw [HM.out]; exact hjm) (by rw [HFJ.out]; simp [inRange]; omega)
          unfold addErr
          rw [HCH.out, HP.out, this]
          simp; omega
        have HNO := Lib.hid hno; clear hno
        go_wp2_with fail
        go_ret2
        exact AddPost.no HNO.out (by omega) ((HBR.out).setCell (by simp; omega) _)
      by_cases hr2 : 10000 < fj + k
      · have hno : addErr l frm to k = 70 := by
          have : (cutL l frm to).all (fun s => inRange (s.free + k)) = false := all_inRange_no (by rw [HM.out]; exact hjm) (by rw [HFJ.out]; simp [inRange]; omega)
          unfold addErr
          rw [HCH.out, HP.out, this]
          simp; omega
        have HNO := Lib.hid hno; clear hno
        go_wp2_with fail
        go_ret2
        exact AddPost.no HNO.out (by omega) ((HBR.out).setCell (by simp; omega) _)
      go_wp2_with fail
      go_roundw
      case rel =>
        refine ⟨j + 1, by omega, by go_num, (HBR.out).setCell (by simp; omega) _, ?_, fun x hx => ?_⟩
        · have := HST.out.1
          rw [addN_succ _ _ _ (by rw [HM.out]; exact hjm), HFJ.out]
          have e := flatS_set (addN (cutL l frm to) k j) j (by rw [length_addN, HM.out]; exact hjm) (fj + k)
          rw [(addN_at (cutL l frm to) k j (by rw [HM.out]; exact hjm)).1] at e
          rw [e]
          exact this
        · by_cases hxj : x = j
          · subst hxj; rw [HFJ.out]; simp [inRange]; omega
          · exact HALL.out x (by omega)
      case measure => simp [intOf]; omega
    · obtain rfl : j = m := by omega
      have hok : (cutL l frm to).all (fun s => inRange (s.free + k)) = true := all_inRange_yes (fun x hx => HALL.out x (by rw [HM.out] at hx; exact hx))
      have HOK := Lib.hid hok; clear hok
      rw [addN_all _ _ _ (HM.out.symm)] at hown
      generalize hinn : (cutL l frm to).map (plus k) = inn at *
      have HINN := Lib.hid hinn; clear hinn
      have HOI := Lib.hid hown; clear hown HOW
      have hpl1 := placeAny (HH.out.below hb) HV.out frm hf0 hf1
      have HPL1 := Lib.hid hpl1
      clear hb hpl1
      have hbr : b < wr.heap.size := by omega
      have hpp := HV.out.plc hf0
      have hqq := HV.out.plc ht0
      generalize hpe : plc l frm = p at *
      generalize hqe : plc l to = q at *
      have HPE := Lib.hid hpe; clear hpe
      have HQE := Lib.hid hqe; clear hqe
      obtain ⟨hp1, hp2, hp3⟩ := hpp
      obtain ⟨hq1, hq2, hq3⟩ := hqq
      have HP3 := Lib.hid hp3
      have HQ3 := Lib.hid hq3
      clear hp3 hq3 hq2
      go_wp2_with fail
      refine (HPL1.out).mono ?_
      rintro e w4 ⟨rfl, hb4⟩
      have hB4 := HBR.out.trans (hb4.mono hwr)
      have hpl2 := placeAny (HH.out.below hB4) HV.out to ht0 ht1
      rw [HQE.out] at hpl2
      have HPL2 := Lib.hid hpl2
      have HB4 := Lib.hid hb4
      clear hpl2 hB4 hb4 HPL1
      go_wp2_with fail
      refine (HPL2.out).mono ?_
      rintro e w5 ⟨rfl, hb5⟩
      have hb45 := HB4.out.trans (hb5.mono HB4.out.size)
      have hB5 := HBR.out.trans (hb45.mono hwr)
      have HOI5 := Lib.hid (owns_below HOI.out hb45)
      have hw45 := hb45.size
      have HB5 := Lib.hid hB5
      have hw5 := hB5.size
      clear hb45 hb5 HPL2 hB5
      generalize hn : l.length = n at *
      have HN := Lib.hid hn; clear hn
      obtain ⟨ap, hap⟩ : ∃ ap, ap = atv l p := ⟨_, rfl⟩
      rw [← hap] at hp2
      have c1 : w5.cell? ⟨b, off + p * 2, none⟩ = some (.int .i64 ap) := by rw [hap]; exact (HB5.out.cell (by exact hbw)).trans (HA.out _ hp1)
      have HAP := Lib.hid hap; clear hap
      have hpn : (p : Int) < n := by omega
      have hqn : (q : Int) < n := by omega
      by_cases heq : ap = frm
      · have hbe : (ap == frm) = true := by simp [heq]
        have hpre : preN l frm = p := by unfold preN; rw [HPE.out, ← HAP.out, if_pos heq]
        have HPRE := Lib.hid hpre; clear hpre heq
        have eidx : (p : Int) - 1 + 1 = (p : Int) := by omega
        have hpc : (p : Int) ≤ cap := by omega
        obtain ⟨u, hu⟩ : ∃ u, u = p := ⟨_, rfl⟩
        have hun : u ≤ n := by omega
        have HU := Lib.hid hu; clear hu
        go_wp2_with fail
        rw [← HU.out]
        have hsub := IsSteps.sub (l := l) hcap (HROW.out.below HB5.out hbw) u (by rw [HN.out]; exact hun) (by rw [HN.out]; exact hnc)
        refine (cloneAny hsub (by simp; omega)).mono ?_
        rintro e w6 ⟨⟨vo, rfl, hown6⟩, hb6⟩
        have hlu : (l.take u).length = u := by have := HN.out; simp; omega
        have hvo := hown6
        unfold OwnSteps at hvo
        rw [hlu] at hvo
        have HVO := Lib.hid hvo
        have HOI6 := Lib.hid (owns_below HOI5.out hb6)
        have hw6 := hb6.size
        have HB6 := Lib.hid hb6
        have HLU := Lib.hid hlu
        clear hown6 hvo hlu hsub hb6
        have hb5w : b < w5.heap.size := by omega
        obtain ⟨fq, hfq⟩ : ∃ fq, fq = frv l q := ⟨_, rfl⟩
        have c2 : w6.cell? ⟨b, off + q * 2 + 1, none⟩ = some (.int .i64 fq) := by rw [hfq]; exact (HB6.out.cell (p := ⟨b, _, none⟩) hb5w).trans ((HB5.out.cell (by exact hbw)).trans (HF.out _ hq1))
        have HFQ := Lib.hid hfq
        clear hfq c1
        have hbv : vo.ownBlock ≠ some b := fun e => by have := (World.ownsRow.lt HVO.out) b e; omega
        have hgv : vo.ownBlock ≠ some gi := fun e => by have := (World.ownsRow.lt HVO.out) gi e; omega
        have hq0 : (0 : Int) ≤ (q : Int) := Int.natCast_nonneg _
        have hgi6 : gi < w6.heap.size := by omega
        have hb6 : b < w6.heap.size := by omega
        have hnw : ∀ i x, (flatS inn)[i]? = some x → w6.cell? ((⟨gi, 0, none⟩ : Addr).add i) = some x := fun i x hx => HOI6.out.cells (g := gi) rfl i x hx
        have HNW := Lib.hid hnw
        clear hnw
        have hil : (flatS inn).length = j * 2 := HOI6.out.1
        have HIL := Lib.hid hil
        clear hil
        have hwv : vo.ownBlock ≠ some w6.heap.size := fun e => by have := (World.ownsRow.lt HVO.out) _ e; omega
        have hvr : ∀ k, vo.ownBlock = some k → w5.heap.size ≤ k := fun k hk => ((World.ownsRow.lt HVO.out) k hk).1
        have hraw : addRaw l frm to k = l.take u ++ inn ++ [⟨to, fq⟩] ++ l.drop (q + 1) := by
          unfold addRaw val
          rw [HPRE.out, HQE.out, HINN.out, ← HFQ.out, ← HU.out]
        have HRAW := Lib.hid hraw
        have hrl := addRaw_len (k := k) HV.out hf0 hne
        have hrr := (rises_iff _).1 (addRaw_rises (k := k) HV.out hf0 hne)
        have HRR := Lib.hid hrr
        have hoke : addErr l frm to k = if 20000 < (tidy (addRaw l frm to k)).length then 3 else 0 := by
          unfold addErr
          rw [HCH.out, HP.out, HOK.out]
          simp only [Bool.true_eq_false, if_false]
          rw [if_neg (by omega)]
        have HOKE := Lib.hid hoke
        rw [HN.out] at hrl
        generalize hrg : addRaw l frm to k = raw at *
        have HRG := Lib.hid hrg
        clear hraw hrr hoke hrg
        have hdl : (flatS (l.drop (q + 1))).length = (n - (q + 1)) * 2 := by rw [length_flatS, List.length_drop, HN.out]
        have HDL := Lib.hid hdl
        have hinl : inn.length = j := by have := HIL.out; rw [length_flatS] at this; omega
        have HINL := Lib.hid hinl
        clear hdl hinl
        obtain ⟨i0, hi, hz0, hz1, hz2⟩ := info_parts Try.info38
        go_wp2_with fail
        go_region_held3 (fun w' => w'.cell? ⟨b, off + q * 2 + 1, none⟩ = some (.int .i64 fq)) (first | go_keep | (rw [hgrow7.cell_far ⟨b, off + q * 2 + 1, none⟩ hb6 (Ne.symm hbv)]; assumption) | (rw [hgrow7.cell_far ⟨b, off + q * 2 + 1, none⟩ (lt_alloc hb6) (Ne.symm hbv)]; assumption) | (rw [hgrow8.cell_far ⟨b, off + q * 2 + 1, none⟩ hb7 (Ne.symm hg1b)]; assumption) | (rw [hgrow8.cell_far ⟨b, off + q * 2 + 1, none⟩ (lt_alloc hb7) (Ne.symm hg1b)]; first | assumption | go_keep)) ((first | (refine step_append_lies _ (by rfl) (.tmp 103) (.tmp 104) _ (by rfl) w5.heap.size 38 i0 _ 2 16 Try.underlying33 hi hz0 hz1 hz2 rfl (by omega) vo u (flatS (l.take u)) (by rfl) (by first | exact HVO.out | exact HVO.out.alloc _) ⟨gi, 0, none⟩ j capi (flatS inn) (by rfl) HIL.out (by first | exact HNW.out | exact fun i x hx => Lib.cell?_alloc_some _ (HNW.out i x hx)) (oneCell_flatS inn) (by omega) (by unfold maxLen; omega) (by omega) (by first | omega | (simp; omega)) _ rfl ?_; intro g1 cap1 w7 hown7 hgrow7 hat7 hlt7; have hg1 := ((World.ownsRow.lt hown7) g1 rfl).1; have hw7 : w6.heap.size ≤ w7.heap.size := (by have := hgrow7.size; first | exact this | (simp at this; omega)); have hb7 : b < w7.heap.size := Nat.lt_of_lt_of_le hb6 hw7; have hg1b : (some g1 : Option Nat) ≠ some b := (by simp; omega); have hB7w : w5.heap.size ≤ w7.heap.size := Nat.le_trans hw6 hw7; have hB7 : Below w5.heap.size w6 w7 := (by first | exact ((Below.refl _ _).drew).grown hgrow7 hw6 hvr | exact (((Below.refl _ _).drew).alloc hw6 _).grown hgrow7 (by simp; omega) hvr)) | (refine step_append_lies _ (by rfl) (.tmp 105) (.tmp 113) _ (by rfl) w5.heap.size 38 i0 _ 2 16 Try.underlying33 hi hz0 hz1 hz2 rfl (by omega) _ (u + j) (flatS (l.take u) ++ flatS inn) (by rfl) (by first | exact hown7 | exact hown7.alloc _) _ 1 1 [.int .i64 to, .int .i64 fq] (by rfl) (by rfl) (by first | exact news_at _ _ rfl #[.int .i64 to, .int .i64 fq] 38 | exact news_kept hgrow7 _ hwv _ (news_at _ _ rfl #[.int .i64 to, .int .i64 fq] 38)) (by simp [Value.oneCell']) (by omega) (by unfold maxLen; omega) (by omega) (by first | omega | (simp; omega)) _ rfl ?_; intro g2 cap2 w8 hown8 hgrow8 hat8 hlt8; have hB8 : Below w5.heap.size w6 w8 := (by first | exact hB7.grown hgrow8 hB7w (fun k hk => own_of hk ▸ hg1) | exact (hB7.alloc hB7w _).grown hgrow8 (Nat.le_of_lt (lt_alloc' hB7w)) (fun k hk => own_of hk ▸ hg1)))))
        all_goals
          have HO8 := Lib.hid hown8
          have HBB8 := Lib.hid hB8
          have hw8 := hB8.size
          have HROW8 := Lib.hid (((HROW.out.below HB5.out hbw).below HB6.out hb5w).below hB8 hb5w)
          clear hown8 hB8 hgrow8 hat8 hlt8 hown7 hgrow7 hat7 hlt7 hg1b hB7
          have hw58 : w5.heap.size ≤ w8.heap.size := Nat.le_trans hw6 hw8
          by_cases hcq : cap = q + 1
          · have HDC := Lib.hid (show ∀ ad, ad = (⟨b, off, none⟩ : Addr) → ∀ i x, (flatS (l.drop (q + 1)))[i]? = some x → w8.cell? (ad.add i) = some x from fun ad _ i x hx => by
              have : l.drop (q + 1) = [] := List.drop_eq_nil_of_le (by have := HN.out; omega)
              rw [this] at hx
              simp [flatS] at hx)
            have hn0 : (n : Int) - ((q : Int) + 1) = 0 := by omega
            subst hcq
            obtain rfl : n = q + 1 := by omega
            go_wp2_with (at_builtin; go_loud (refine wpList_append_own _ rfl (.tmp 115) (.tmp 119) 33 rfl w5.heap.size 38 i0 _ 2 16 Try.underlying33 hi hz0 hz1 hz2 rfl (by decide) _ (u + j + 1) _ rfl HO8.out ⟨b, off, none⟩ 0 0 (flatS (l.drop (q + 1))) rfl (by rw [HDL.out]; omega) (by exact HDC.out _ rfl) (oneCell_flatS _) (by unfold maxLen; omega) (by omega) (by omega) ?_))
            intro v9 w9 hown9 hgrow9 hnil9
            have hB9 : Below w5.heap.size w6 w9 := HBB8.out.grown hgrow9 hw58 (fun k hk => own_of hk ▸ ((World.ownsRow.lt HO8.out) g2 rfl).1)
            have hown9' : OwnSteps w9 w5.heap.size v9 raw := by
              unfold OwnSteps
              rw [HRAW.out]
              simp only [flatS_append, List.length_append, HLU.out, HINL.out, List.length_drop, HN.out]
              have e1 : flatS [(⟨to, fq⟩ : Step)] = [.int .i64 to, .int .i64 fq] := rfl
              rw [e1]
              simp only [List.append_assoc, List.cons_append, List.nil_append, List.length_cons, List.length_nil, Nat.zero_add]
              first | exact hown9 | (rw [Nat.sub_self]; exact hown9)
            have htd := tidyAny hown9'.is hrl.1 (Nat.le_trans hrl.2 (by omega)) HRR.out
            have HTD := Lib.hid htd
            have HB9 := Lib.hid (HB6.out.trans (hB9.mono (Nat.le_refl _)))
            clear hown9' htd hown9 hgrow9 hnil9 hB9
            go_wp2_with fail
            refine (HTD.out).mono ?_
            rintro e w10 ⟨⟨v10, rfl, hown10⟩, hb10⟩
            obtain ⟨ao, c10, hv10, hc10, hc10'⟩ := (IsRow.of_owns hown10).shape
            have HO10 := Lib.hid hown10
            have hB10 := HB9.out.trans (hb10.mono HB9.out.size)
            have HB10 := Lib.hid (HB5.out.trans (hB10.mono hw5))
            have hw59 := HB9.out.size
            have hbig : (tidy raw).length ≤ 9223372036854775807 := Nat.le_trans hc10 hc10'
            have HOKE2 := Lib.hid HOKE.out
            clear hown10 hb10 hB10
            by_cases hlong : 20000 < (tidy raw).length
            · have he3 : addErr l frm to k = 3 := by rw [HOKE.out, if_pos hlong]
              have HE3 := Lib.hid he3
              have hd9 : decide ((20000 : Int) < ((tidy raw).length : Int)) = true := by simp; omega
              subst hv10
              clear he3
              generalize (tidy raw).length = mm at *
              go_wp2_with fail
              go_ret2
              exact AddPost.no HE3.out (by omega) HB10.out
            · have he3 : addErr l frm to k = 0 := by rw [HOKE.out, if_neg hlong]
              have hres : addRes l frm to k = tidy raw := by unfold addRes; rw [he3, if_pos rfl, if_neg (by omega), HRG.out]
              have HE3 := Lib.hid he3
              have HRES := Lib.hid hres
              have hd9 : decide ((20000 : Int) < ((tidy raw).length : Int)) = false := by simp; omega
              subst hv10
              clear he3 hres
              have HO11 := Lib.hid (show OwnSteps w10 w.heap.size (.slice ao (tidy raw).length c10) (tidy raw) from OwnSteps.mono HO10.out (by omega))
              clear HO10
              generalize htr : tidy raw = tr at *
              generalize htm : tr.length = mm at *
              have HTM := Lib.hid htm
              clear htm htr
              go_wp2_with fail
              go_ret2
              refine ⟨⟨_, by rw [HE3.out]; rfl, ?_⟩, HB10.out⟩
              rw [HRES.out]
              exact HO11.out
          · have HDC := Lib.hid (show ∀ ad, ad = (⟨b, off + (q + 1) * 2, none⟩ : Addr) → ∀ i x, (flatS (l.drop (q + 1)))[i]? = some x → w8.cell? (ad.add i) = some x from fun ad had i x hx => by
              subst had
              rw [Addr.add_lit, Nat.add_assoc]
              refine HROW8.out _ _ ?_
              have e : flatS l = flatS (l.take (q + 1)) ++ flatS (l.drop (q + 1)) := by rw [← flatS_append, List.take_append_drop]
              have hle : (flatS (l.take (q + 1))).length = (q + 1) * 2 := by rw [length_flatS, List.length_take, HN.out, Nat.min_eq_left (by omega)]
              rw [e, List.getElem?_append_right (by omega), hle, Nat.add_sub_cancel_left]
              exact hx)
            go_wp2_with (at_builtin; refine wpList_append_own _ rfl (.tmp 115) (.tmp 119) 33 rfl w5.heap.size 38 i0 _ 2 16 Try.underlying33 hi hz0 hz1 hz2 rfl (by decide) _ (u + j + 1) _ rfl HO8.out ⟨b, off + (q + 1) * 2, none⟩ (n - (q + 1)) (cap - (q + 1)) (flatS (l.drop (q + 1))) rfl HDL.out (by exact HDC.out _ rfl) (oneCell_flatS _) (by unfold maxLen; omega) (by omega) (by omega) ?_)
            intro v9 w9 hown9 hgrow9 hnil9
            have hB9 : Below w5.heap.size w6 w9 := HBB8.out.grown hgrow9 hw58 (fun k hk => own_of hk ▸ ((World.ownsRow.lt HO8.out) g2 rfl).1)
            have hown9' : OwnSteps w9 w5.heap.size v9 raw := by
              unfold OwnSteps
              rw [HRAW.out]
              simp only [flatS_append, List.length_append, HLU.out, HINL.out, List.length_drop, HN.out]
              have e1 : flatS [(⟨to, fq⟩ : Step)] = [.int .i64 to, .int .i64 fq] := rfl
              rw [e1]
              simp only [List.append_assoc, List.cons_append, List.nil_append, List.length_cons, List.length_nil, Nat.zero_add]
              first | exact hown9 | (rw [Nat.sub_self]; exact hown9)
            have htd := tidyAny hown9'.is hrl.1 (Nat.le_trans hrl.2 (by omega)) HRR.out
            have HTD := Lib.hid htd
            have HB9 := Lib.hid (HB6.out.trans (hB9.mono (Nat.le_refl _)))
            clear hown9' htd hown9 hgrow9 hnil9 hB9
            go_wp2_with fail
            refine (HTD.out).mono ?_
            rintro e w10 ⟨⟨v10, rfl, hown10⟩, hb10⟩
            obtain ⟨ao, c10, hv10, hc10, hc10'⟩ := (IsRow.of_owns hown10).shape
            have HO10 := Lib.hid hown10
            have hB10 := HB9.out.trans (hb10.mono HB9.out.size)
            have HB10 := Lib.hid (HB5.out.trans (hB10.mono hw5))
            have hw59 := HB9.out.size
            have hbig : (tidy raw).length ≤ 9223372036854775807 := Nat.le_trans hc10 hc10'
            have HOKE2 := Lib.hid HOKE.out
            clear hown10 hb10 hB10
            by_cases hlong : 20000 < (tidy raw).length
            · have he3 : addErr l frm to k = 3 := by rw [HOKE.out, if_pos hlong]
              have HE3 := Lib.hid he3
              have hd9 : decide ((20000 : Int) < ((tidy raw).length : Int)) = true := by simp; omega
              subst hv10
              clear he3
              generalize (tidy raw).length = mm at *
              go_wp2_with fail
              go_ret2
              exact AddPost.no HE3.out (by omega) HB10.out
            · have he3 : addErr l frm to k = 0 := by rw [HOKE.out, if_neg hlong]
              have hres : addRes l frm to k = tidy raw := by unfold addRes; rw [he3, if_pos rfl, if_neg (by omega), HRG.out]
              have HE3 := Lib.hid he3
              have HRES := Lib.hid hres
              have hd9 : decide ((20000 : Int) < ((tidy raw).length : Int)) = false := by simp; omega
              subst hv10
              clear he3 hres
              have HO11 := Lib.hid (show OwnSteps w10 w.heap.size (.slice ao (tidy raw).length c10) (tidy raw) from OwnSteps.mono HO10.out (by omega))
              clear HO10
              generalize htr : tidy raw = tr at *
              generalize htm : tr.length = mm at *
              have HTM := Lib.hid htm
              clear htm htr
              go_wp2_with fail
              go_ret2
              refine ⟨⟨_, by rw [HE3.out]; rfl, ?_⟩, HB10.out⟩
              rw [HRES.out]
              exact HO11.out
      · have hbe : (ap == frm) = false := by simp [heq]
        have hpre : preN l frm = p + 1 := by unfold preN; rw [HPE.out, ← HAP.out, if_neg heq]
        have HPRE := Lib.hid hpre; clear hpre heq
        have hpc : (p : Int) + 1 ≤ cap := by omega
        obtain ⟨u, hu⟩ : ∃ u, u = p + 1 := ⟨_, rfl⟩
        have hun : u ≤ n := by omega
        have HU := Lib.hid hu; clear hu
        go_wp2_with fail
        rw [← HU.out]
        have hsub := IsSteps.sub (l := l) hcap (HROW.out.below HB5.out hbw) u (by rw [HN.out]; exact hun) (by rw [HN.out]; exact hnc)
        refine (cloneAny hsub (by simp; omega)).mono ?_
        rintro e w6 ⟨⟨vo, rfl, hown6⟩, hb6⟩
        have hlu : (l.take u).length = u := by have := HN.out; simp; omega
        have hvo := hown6
        unfold OwnSteps at hvo
        rw [hlu] at hvo
        have HVO := Lib.hid hvo
        have HOI6 := Lib.hid (owns_below HOI5.out hb6)
        have hw6 := hb6.size
        have HB6 := Lib.hid hb6
        have HLU := Lib.hid hlu
        clear hown6 hvo hlu hsub hb6
        have hb5w : b < w5.heap.size := by omega
        obtain ⟨fq, hfq⟩ : ∃ fq, fq = frv l q := ⟨_, rfl⟩
        have c2 : w6.cell? ⟨b, off + q * 2 + 1, none⟩ = some (.int .i64 fq) := by rw [hfq]; exact (HB6.out.cell (p := ⟨b, _, none⟩) hb5w).trans ((HB5.out.cell (by exact hbw)).trans (HF.out _ hq1))
        have HFQ := Lib.hid hfq
        clear hfq c1
        have hbv : vo.ownBlock ≠ some b := fun e => by have := (World.ownsRow.lt HVO.out) b e; omega
        have hgv : vo.ownBlock ≠ some gi := fun e => by have := (World.ownsRow.lt HVO.out) gi e; omega
        have hq0 : (0 : Int) ≤ (q : Int) := Int.natCast_nonneg _
        have hgi6 : gi < w6.heap.size := by omega
        have hb6 : b < w6.heap.size := by omega
        have hnw : ∀ i x, (flatS inn)[i]? = some x → w6.cell? ((⟨gi, 0, none⟩ : Addr).add i) = some x := fun i x hx => HOI6.out.cells (g := gi) rfl i x hx
        have HNW := Lib.hid hnw
        clear hnw
        have hil : (flatS inn).length = j * 2 := HOI6.out.1
        have HIL := Lib.hid hil
        clear hil
        have hwv : vo.ownBlock ≠ some w6.heap.size := fun e => by have := (World.ownsRow.lt HVO.out) _ e; omega
        have hvr : ∀ k, vo.ownBlock = some k → w5.heap.size ≤ k := fun k hk => ((World.ownsRow.lt HVO.out) k hk).1
        have hraw : addRaw l frm to k = l.take u ++ inn ++ [⟨to, fq⟩] ++ l.drop (q + 1) := by
          unfold addRaw val
          rw [HPRE.out, HQE.out, HINN.out, ← HFQ.out, ← HU.out]
        have HRAW := Lib.hid hraw
        have hrl := addRaw_len (k := k) HV.out hf0 hne
        have hrr := (rises_iff _).1 (addRaw_rises (k := k) HV.out hf0 hne)
        have HRR := Lib.hid hrr
        have hoke : addErr l frm to k = if 20000 < (tidy (addRaw l frm to k)).length then 3 else 0 := by
          unfold addErr
          rw [HCH.out, HP.out, HOK.out]
          simp only [Bool.true_eq_false, if_false]
          rw [if_neg (by omega)]
        have HOKE := Lib.hid hoke
        rw [HN.out] at hrl
        generalize hrg : addRaw l frm to k = raw at *
        have HRG := Lib.hid hrg
        clear hraw hrr hoke hrg
        have hdl : (flatS (l.drop (q + 1))).length = (n - (q + 1)) * 2 := by rw [length_flatS, List.length_drop, HN.out]
        have HDL := Lib.hid hdl
        have hinl : inn.length = j := by have := HIL.out; rw [length_flatS] at this; omega
        have HINL := Lib.hid hinl
        clear hdl hinl
        obtain ⟨i0, hi, hz0, hz1, hz2⟩ := info_parts Try.info38
        go_wp2_with fail
        go_region_held3 (fun w' => w'.cell? ⟨b, off + q * 2 + 1, none⟩ = some (.int .i64 fq)) (first | go_keep | (rw [hgrow7.cell_far ⟨b, off + q * 2 + 1, none⟩ hb6 (Ne.symm hbv)]; assumption) | (rw [hgrow7.cell_far ⟨b, off + q * 2 + 1, none⟩ (lt_alloc hb6) (Ne.symm hbv)]; assumption) | (rw [hgrow8.cell_far ⟨b, off + q * 2 + 1, none⟩ hb7 (Ne.symm hg1b)]; assumption) | (rw [hgrow8.cell_far ⟨b, off + q * 2 + 1, none⟩ (lt_alloc hb7) (Ne.symm hg1b)]; first | assumption | go_keep)) ((first | (refine step_append_lies _ (by rfl) (.tmp 103) (.tmp 104) _ (by rfl) w5.heap.size 38 i0 _ 2 16 Try.underlying33 hi hz0 hz1 hz2 rfl (by omega) vo u (flatS (l.take u)) (by rfl) (by first | exact HVO.out | exact HVO.out.alloc _) ⟨gi, 0, none⟩ j capi (flatS inn) (by rfl) HIL.out (by first | exact HNW.out | exact fun i x hx => Lib.cell?_alloc_some _ (HNW.out i x hx)) (oneCell_flatS inn) (by omega) (by unfold maxLen; omega) (by omega) (by first | omega | (simp; omega)) _ rfl ?_; intro g1 cap1 w7 hown7 hgrow7 hat7 hlt7; have hg1 := ((World.ownsRow.lt hown7) g1 rfl).1; have hw7 : w6.heap.size ≤ w7.heap.size := (by have := hgrow7.size; first | exact this | (simp at this; omega)); have hb7 : b < w7.heap.size := Nat.lt_of_lt_of_le hb6 hw7; have hg1b : (some g1 : Option Nat) ≠ some b := (by simp; omega); have hB7w : w5.heap.size ≤ w7.heap.size := Nat.le_trans hw6 hw7; have hB7 : Below w5.heap.size w6 w7 := (by first | exact ((Below.refl _ _).drew).grown hgrow7 hw6 hvr | exact (((Below.refl _ _).drew).alloc hw6 _).grown hgrow7 (by simp; omega) hvr)) | (refine step_append_lies _ (by rfl) (.tmp 105) (.tmp 113) _ (by rfl) w5.heap.size 38 i0 _ 2 16 Try.underlying33 hi hz0 hz1 hz2 rfl (by omega) _ (u + j) (flatS (l.take u) ++ flatS inn) (by rfl) (by first | exact hown7 | exact hown7.alloc _) _ 1 1 [.int .i64 to, .int .i64 fq] (by rfl) (by rfl) (by first | exact news_at _ _ rfl #[.int .i64 to, .int .i64 fq] 38 | exact news_kept hgrow7 _ hwv _ (news_at _ _ rfl #[.int .i64 to, .int .i64 fq] 38)) (by simp [Value.oneCell']) (by omega) (by unfold maxLen; omega) (by omega) (by first | omega | (simp; omega)) _ rfl ?_; intro g2 cap2 w8 hown8 hgrow8 hat8 hlt8; have hB8 : Below w5.heap.size w6 w8 := (by first | exact hB7.grown hgrow8 hB7w (fun k hk => own_of hk ▸ hg1) | exact (hB7.alloc hB7w _).grown hgrow8 (Nat.le_of_lt (lt_alloc' hB7w)) (fun k hk => own_of hk ▸ hg1)))))
        all_goals
          have HO8 := Lib.hid hown8
          have HBB8 := Lib.hid hB8
          have hw8 := hB8.size
          have HROW8 := Lib.hid (((HROW.out.below HB5.out hbw).below HB6.out hb5w).below hB8 hb5w)
          clear hown8 hB8 hgrow8 hat8 hlt8 hown7 hgrow7 hat7 hlt7 hg1b hB7
          have hw58 : w5.heap.size ≤ w8.heap.size := Nat.le_trans hw6 hw8
          by_cases hcq : cap = q + 1
          · have HDC := Lib.hid (show ∀ ad, ad = (⟨b, off, none⟩ : Addr) → ∀ i x, (flatS (l.drop (q + 1)))[i]? = some x → w8.cell? (ad.add i) = some x from fun ad _ i x hx => by
              have : l.drop (q + 1) = [] := List.drop_eq_nil_of_le (by have := HN.out; omega)
              rw [this] at hx
              simp [flatS] at hx)
            have hn0 : (n : Int) - ((q : Int) + 1) = 0 := by omega
            subst hcq
            obtain rfl : n = q + 1 := by omega
            go_wp2_with (at_builtin; go_loud (refine wpList_append_own _ rfl (.tmp 115) (.tmp 119) 33 rfl w5.heap.size 38 i0 _ 2 16 Try.underlying33 hi hz0 hz1 hz2 rfl (by decide) _ (u + j + 1) _ rfl HO8.out ⟨b, off, none⟩ 0 0 (flatS (l.drop (q + 1))) rfl (by rw [HDL.out]; omega) (by exact HDC.out _ rfl) (oneCell_flatS _) (by unfold maxLen; omega) (by omega) (by omega) ?_))
            intro v9 w9 hown9 hgrow9 hnil9
            have hB9 : Below w5.heap.size w6 w9 := HBB8.out.grown hgrow9 hw58 (fun k hk => own_of hk ▸ ((World.ownsRow.lt HO8.out) g2 rfl).1)
            have hown9' : OwnSteps w9 w5.heap.size v9 raw := by
              unfold OwnSteps
              rw [HRAW.out]
              simp only [flatS_append, List.length_append, HLU.out, HINL.out, List.length_drop, HN.out]
              have e1 : flatS [(⟨to, fq⟩ : Step)] = [.int .i64 to, .int .i64 fq] := rfl
              rw [e1]
              simp only [List.append_assoc, List.cons_append, List.nil_append, List.length_cons, List.length_nil, Nat.zero_add]
              first | exact hown9 | (rw [Nat.sub_self]; exact hown9)
            have htd := tidyAny hown9'.is hrl.1 (Nat.le_trans hrl.2 (by omega)) HRR.out
            have HTD := Lib.hid htd
            have HB9 := Lib.hid (HB6.out.trans (hB9.mono (Nat.le_refl _)))
            clear hown9' htd hown9 hgrow9 hnil9 hB9
            go_wp2_with fail
            refine (HTD.out).mono ?_
            rintro e w10 ⟨⟨v10, rfl, hown10⟩, hb10⟩
            obtain ⟨ao, c10, hv10, hc10, hc10'⟩ := (IsRow.of_owns hown10).shape
            have HO10 := Lib.hid hown10
            have hB10 := HB9.out.trans (hb10.mono HB9.out.size)
            have HB10 := Lib.hid (HB5.out.trans (hB10.mono hw5))
            have hw59 := HB9.out.size
            have hbig : (tidy raw).length ≤ 9223372036854775807 := Nat.le_trans hc10 hc10'
            have HOKE2 := Lib.hid HOKE.out
            clear hown10 hb10 hB10
            by_cases hlong : 20000 < (tidy raw).length
            · have he3 : addErr l frm to k = 3 := by rw [HOKE.out, if_pos hlong]
              have HE3 := Lib.hid he3
              have hd9 : decide ((20000 : Int) < ((tidy raw).length : Int)) = true := by simp; omega
              subst hv10
              clear he3
              generalize (tidy raw).length = mm at *
              go_wp2_with fail
              go_ret2
              exact AddPost.no HE3.out (by omega) HB10.out
            · have he3 : addErr l frm to k = 0 := by rw [HOKE.out, if_neg hlong]
              have hres : addRes l frm to k = tidy raw := by unfold addRes; rw [he3, if_pos rfl, if_neg (by omega), HRG.out]
              have HE3 := Lib.hid he3
              have HRES := Lib.hid hres
              have hd9 : decide ((20000 : Int) < ((tidy raw).length : Int)) = false := by simp; omega
              subst hv10
              clear he3 hres
              have HO11 := Lib.hid (show OwnSteps w10 w.heap.size (.slice ao (tidy raw).length c10) (tidy raw) from OwnSteps.mono HO10.out (by omega))
              clear HO10
              generalize htr : tidy raw = tr at *
              generalize htm : tr.length = mm at *
              have HTM := Lib.hid htm
              clear htm htr
              go_wp2_with fail
              go_ret2
              refine ⟨⟨_, by rw [HE3.out]; rfl, ?_⟩, HB10.out⟩
              rw [HRES.out]
              exact HO11.out
          · have HDC := Lib.hid (show ∀ ad, ad = (⟨b, off + (q + 1) * 2, none⟩ : Addr) → ∀ i x, (flatS (l.drop (q + 1)))[i]? = some x → w8.cell? (ad.add i) = some x from fun ad had i x hx => by
              subst had
              rw [Addr.add_lit, Nat.add_assoc]
              refine HROW8.out _ _ ?_
              have e : flatS l = flatS (l.take (q + 1)) ++ flatS (l.drop (q + 1)) := by rw [← flatS_append, List.take_append_drop]
              have hle : (flatS (l.take (q + 1))).length = (q + 1) * 2 := by rw [length_flatS, List.length_take, HN.out, Nat.min_eq_left (by omega)]
              rw [e, List.getElem?_append_right (by omega), hle, Nat.add_sub_cancel_left]
              exact hx)
            go_wp2_with (at_builtin; refine wpList_append_own _ rfl (.tmp 115) (.tmp 119) 33 rfl w5.heap.size 38 i0 _ 2 16 Try.underlying33 hi hz0 hz1 hz2 rfl (by decide) _ (u + j + 1) _ rfl HO8.out ⟨b, off + (q + 1) * 2, none⟩ (n - (q + 1)) (cap - (q + 1)) (flatS (l.drop (q + 1))) rfl HDL.out (by exact HDC.out _ rfl) (oneCell_flatS _) (by unfold maxLen; omega) (by omega) (by omega) ?_)
            intro v9 w9 hown9 hgrow9 hnil9
            have hB9 : Below w5.heap.size w6 w9 := HBB8.out.grown hgrow9 hw58 (fun k hk => own_of hk ▸ ((World.ownsRow.lt HO8.out) g2 rfl).1)
            have hown9' : OwnSteps w9 w5.heap.size v9 raw := by
              unfold OwnSteps
              rw [HRAW.out]
              simp only [flatS_append, List.length_append, HLU.out, HINL.out, List.length_drop, HN.out]
              have e1 : flatS [(⟨to, fq⟩ : Step)] = [.int .i64 to, .int .i64 fq] := rfl
              rw [e1]
              simp only [List.append_assoc, List.cons_append, List.nil_append, List.length_cons, List.length_nil, Nat.zero_add]
              first | exact hown9 | (rw [Nat.sub_self]; exact hown9)
            have htd := tidyAny hown9'.is hrl.1 (Nat.le_trans hrl.2 (by omega)) HRR.out
            have HTD := Lib.hid htd
            have HB9 := Lib.hid (HB6.out.trans (hB9.mono (Nat.le_refl _)))
            clear hown9' htd hown9 hgrow9 hnil9 hB9
            go_wp2_with fail
            refine (HTD.out).mono ?_
            rintro e w10 ⟨⟨v10, rfl, hown10⟩, hb10⟩
            obtain ⟨ao, c10, hv10, hc10, hc10'⟩ := (IsRow.of_owns hown10).shape
            have HO10 := Lib.hid hown10
            have hB10 := HB9.out.trans (hb10.mono HB9.out.size)
            have HB10 := Lib.hid (HB5.out.trans (hB10.mono hw5))
            have hw59 := HB9.out.size
            have hbig : (tidy raw).length ≤ 9223372036854775807 := Nat.le_trans hc10 hc10'
            have HOKE2 := Lib.hid HOKE.out
            clear hown10 hb10 hB10
            by_cases hlong : 20000 < (tidy raw).length
            · have he3 : addErr l frm to k = 3 := by rw [HOKE.out, if_pos hlong]
              have HE3 := Lib.hid he3
              have hd9 : decide ((20000 : Int) < ((tidy raw).length : Int)) = true := by simp; omega
              subst hv10
              clear he3
              generalize (tidy raw).length = mm at *
              go_wp2_with fail
              go_ret2
              exact AddPost.no HE3.out (by omega) HB10.out
            · have he3 : addErr l frm to k = 0 := by rw [HOKE.out, if_neg hlong]
              have hres : addRes l frm to k = tidy raw := by unfold addRes; rw [he3, if_pos rfl, if_neg (by omega), HRG.out]
              have HE3 := Lib.hid he3
              have HRES := Lib.hid hres
              have hd9 : decide ((20000 : Int) < ((tidy raw).length : Int)) = false := by simp; omega
              subst hv10
              clear he3 hres
              have HO11 := Lib.hid (show OwnSteps w10 w.heap.size (.slice ao (tidy raw).length c10) (tidy raw) from OwnSteps.mono HO10.out (by omega))
              clear HO10
              generalize htr : tidy raw = tr at *
              generalize htm : tr.length = mm at *
              have HTM := Lib.hid htm
              clear htm htr
              go_wp2_with fail
              go_ret2
              refine ⟨⟨_, by rw [HE3.out]; rfl, ?_⟩, HB10.out⟩
              rw [HRES.out]
              exact HO11.out

/-- steps.Add: what it hands back, of any slice and any numbers. -/
theorem addAny {w : World} {v : Value} {l : List Step} (h : IsSteps w v l) (frm to k : Int) :
    Calls Try.prog 44 #[v, .int .i64 frm, .int .i64 to, .int .i64 k] w (AddPost l frm to k w) := by
  cases hc : chk l
  · exact addBad h hc frm to k
  cases hp : pOk frm to k
  · exact addArg h hc frm to k hp
  · have h1 : frm ≤ to := by simp [pOk] at hp; omega
    by_cases he : frm = to
    · subst he; exact addSame h hc frm k hp
    · exact addMain h hc frm to k hp (by omega)

end Go.Proofs.Ytjknmnmilladlaa
