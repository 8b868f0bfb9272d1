import Derived.Test.YtjknmnmilladlaaA
import Derived.Deep.RegionHeld3
import Derived.Maps.RangeWalk
import Derived.Deep.RegionWith

/-
  Walks: steps.Add, where something is added for a while.
-/
namespace Go.Proofs.Ytjknmnmilladlaa
open Go.RowKit

theorem IsSteps.sub {w : World} {b off cap : Nat} {l : List Step} (hcap : cap ≤ maxLen) (hR : RowAt w b off (flatS l)) (j : Nat) (hj : j ≤ l.length) (hc : l.length ≤ cap) : IsSteps w (.slice (some ⟨b, off, none⟩) j cap) (l.take j) := by
  have hl : (l.take j).length = j := by simp; omega
  refine ⟨length_flatS _, some ⟨b, off, none⟩, cap, by rw [hl], by omega, hcap, fun _ => ⟨b, off, rfl, fun i u hu => hR i u ?_⟩⟩
  have e : flatS l = flatS (l.take j) ++ flatS (l.drop j) := by rw [← flatS_append, List.take_append_drop]
  rw [e]
  rw [List.getElem?_append_left (List.getElem?_eq_some_iff.1 hu).1]
  exact hu

theorem own_of {g n c k : Nat} (h : (Value.slice (some ⟨g, 0, none⟩) n c).ownBlock = some k) : g = k := by simpa [Value.ownBlock] using h
theorem lt_alloc {w : World} {o : Obj} {b : Nat} (h : b < w.heap.size) : b < (w.alloc o).heap.size := by simp; omega
theorem lt_alloc' {w : World} {o : Obj} {b : Nat} (h : b ≤ w.heap.size) : b < (w.alloc o).heap.size := by simp; omega

theorem clockF (t : Int) (w : World) (h : isT t = false) :
    Calls Try.prog 40 #[.int .i64 t] w fun e w' => e = .returned (.bool false) ∧ w = w' := (clockIsF t w h).mono fun _ _ ⟨h1, h2⟩ => ⟨h1, h2.symm⟩
theorem clockT (t : Int) (w : World) (h : isT t = true) :
    Calls Try.prog 40 #[.int .i64 t] w fun e w' => e = .returned (.bool true) ∧ w = w' := (clockIsT t w h).mono fun _ _ ⟨h1, h2⟩ => ⟨h1, h2.symm⟩

set_option maxHeartbeats 8000000 in
set_option maxRecDepth 100000 in
theorem addMain {w : World} {v : Value} {l : List Step} (h : IsSteps w v l) (hc : chk l = true) (frm to k : Int) (hp : pOk frm to k = true) (hne : frm < to) :
    Calls Try.prog 44 #[v, .int .i64 frm, .int .i64 to, .int .i64 k] w (AddPost l frm to k w) := by
  have hv := chk_iff.1 hc
  have HC := checkAny h
  rw [hc] at HC
  have HC := Lib.hid HC
  have e0 : errOf true = 0 := rfl
  have h1 : isT frm = true := by simp [pOk] at hp; exact hp.1.1.1.1
  have h2 : isT to = true := by simp [pOk] at hp; exact hp.1.1.1.2
  have h3 : -10000 ≤ k ∧ k ≤ 10000 := by simp [pOk] at hp; omega
  have hf := isT_iff.1 h1
  have ht := isT_iff.1 h2
  have hd0 : decide (to < frm) = false := by simp; omega
  have hd1 : (frm == to) = false := by simp; omega
  have hd2 : decide (k < -10000) = false := by simp; omega
  have hd3 : decide (10000 < k) = false := by simp; omega
  have HCH := Lib.hid hc
  have HP := Lib.hid hp
  have HV := Lib.hid hv
  have HH := Lib.hid h
  obtain ⟨b, off, cap, rfl, hnc, hcap, hbw, hA, hF, hRow⟩ := h.cells hv.pos
  have HA := Lib.hid hA
  have HF := Lib.hid hF
  have HROW := Lib.hid hRow
  have hlen := hv.len
  clear h hc hv hp hA hF hRow
  obtain ⟨hf0, hf1⟩ := hf
  obtain ⟨ht0, ht1⟩ := ht
  go_enter Try.func44, Try.ntmps44
  go_wp2_with fail
  refine (HC.out).mono ?_
  rintro e w1 ⟨rfl, hb1⟩
  have hcut := cutAny (HH.out.below hb1) HV.out frm to hf0 hf1 hne ht1
  have HCUT := Lib.hid hcut
  have HB := Lib.hid hb1; clear hb1 hcut
  go_wp2_with fail
  refine (clockT frm _ h1).mono ?_
  rintro e w2 ⟨rfl, rfl⟩
  go_wp2_with fail
  refine (clockT to _ h2).mono ?_
  rintro e w2 ⟨rfl, rfl⟩
  go_wp2_with fail
  refine (HCUT.out).mono ?_
  rintro e w3 ⟨vi, rfl, hown, hb3⟩
  have hB3 := HB.out.trans (hb3.mono HB.out.size)
  have hcl := HV.out.cutL_len hf0 hne
  obtain ⟨gi, offi, capi, rfl, hci0, hci1, hgi, hx1, hx2, hx3⟩ := (OwnSteps.is hown).cells hcl.1
  have hgi2 := ((World.ownsRow.lt hown) gi rfl).1
  have hoff : offi = 0 := by
    rcases hown.2 with ⟨h', _⟩ | ⟨g', cap', cur, h', _⟩
    · simp at h'
    · simp at h'; exact h'.1.2
  subst hoff
  unfold maxLen at hci1
  have hw3 := hB3.size
  have HB3 := Lib.hid hB3
  have HO := Lib.hid hown
  clear hB3 hown hb3 HCUT HC hx1 hx2 hx3
  have hw1 := HB.out.size
  generalize hm : (cutL l frm to).length = m at *
  have HM := Lib.hid hm; clear hm
  obtain ⟨hm0, hm1⟩ := hcl
  go_wp2_with fail
  go_loopw [56] (fun i wr => ∃ j : Nat, j ≤ m ∧ i = .int .i64 j ∧ Below w.heap.size w wr ∧ wr.ownsRow w1.heap.size 38 2 (.slice (some ⟨gi, 0, none⟩) m capi) m (flatS (addN (cutL l frm to) k j)) ∧ (∀ x, x < j → inRange (frv (cutL l frm to) x + k) = true)) (fun i _ => m - (intOf i).toNat)
  case atStart => exact ⟨0, by omega, rfl, HB3.out, by rw [addN_zero]; have := HO.out; unfold OwnSteps at this; rw [HM.out] at this; exact this, by omega⟩
  case round =>
    obtain ⟨j, hj, rfl, hb, hown, hall⟩ := hrel
    have HALL := Lib.hid hall; clear hall
    have HOW := Lib.hid hown
    have HBR := Lib.hid hb
    have hwr := hb.size
    have hgr := ((World.ownsRow.lt hown) gi rfl).2
    by_cases hjm : j < m
    · have hat := addN_at (cutL l frm to) k j (by rw [HM.out]; exact hjm)
      have hcF := flatS_fr (addN (cutL l frm to) k j) j (by rw [length_addN, HM.out]; exact hjm)
      rw [hat.2] at hcF
      have hcell := hown.cellAt (j * 2 + 1) (by omega)
      rw [hcF] at hcell
      have hfz := hown.frozenAt (j * 2 + 1)
      have hst := hown.stored (j * 2 + 1) (.int .i64 (frv (cutL l frm to) j + k))
      have hvf : 0 ≤ frv (cutL l frm to) j ∧ frv (cutL l frm to) j ≤ 10000 := HV.out.cutL_fr hf0 hne (by rw [HM.out]; exact hjm)
      generalize hfj : frv (cutL l frm to) j = fj at *
      have HST := Lib.hid hst
      have HFJ := Lib.hid hfj
      clear hst hown hb hat hcF hfj
      obtain ⟨hvf0, hvf1⟩ := hvf
      by_cases hr1 : fj + k < 0
      · have hno : addErr l frm to k = 70 := by
          have : (cutL l frm to).all (fun s => inRange (s.free + k)) = false := all_inRange_no (by rw [HM.out]; exact hjm) (by rw [HFJ.out]; simp [inRange]; omega)
          unfold addErr
          rw [HCH.out, HP.out, this]
          simp; omega
        have HNO := Lib.hid hno; clear hno
        go_wp2_with fail
        go_ret2
        exact AddPost.no HNO.out (by omega) ((HBR.out).setCell (by simp; omega) _)
      by_cases hr2 : 10000 < fj + k
      · have hno : addErr l frm to k = 70 := by
          have : (cutL l frm to).all (fun s => inRange (s.free + k)) = false := all_inRange_no (by rw [HM.out]; exact hjm) (by rw [HFJ.out]; simp [inRange]; omega)
          unfold addErr
          rw [HCH.out, HP.out, this]
          simp; omega
        have HNO := Lib.hid hno; clear hno
        go_wp2_with fail
        go_ret2
        exact AddPost.no HNO.out (by omega) ((HBR.out).setCell (by simp; omega) _)
      go_wp2_with fail
      go_roundw
      case rel =>
        refine ⟨j + 1, by omega, by go_num, (HBR.out).setCell (by simp; omega) _, ?_, fun x hx => ?_⟩
        · have := HST.out.1
          rw [addN_succ _ _ _ (by rw [HM.out]; exact hjm), HFJ.out]
          have e := flatS_set (addN (cutL l frm to) k j) j (by rw [length_addN, HM.out]; exact hjm) (fj + k)
          rw [(addN_at (cutL l frm to) k j (by rw [HM.out]; exact hjm)).1] at e
          rw [e]
          exact this
        · by_cases hxj : x = j
          · subst hxj; rw [HFJ.out]; simp [inRange]; omega
          · exact HALL.out x (by omega)
      case measure => simp [intOf]; omega
    · obtain rfl : j = m := by omega
      have hok : (cutL l frm to).all (fun s => inRange (s.free + k)) = true := all_inRange_yes (fun x hx => HALL.out x (by rw [HM.out] at hx; exact hx))
      have HOK := Lib.hid hok; clear hok
      rw [addN_all _ _ _ (HM.out.symm)] at hown
      generalize hinn : (cutL l frm to).map (plus k) = inn at *
      have HINN := Lib.hid hinn; clear hinn
      have HOI := Lib.hid hown; clear hown HOW
      have hpl1 := placeAny (HH.out.below hb) HV.out frm hf0 hf1
      have HPL1 := Lib.hid hpl1
      clear hb hpl1
      have hbr : b < wr.heap.size := by omega
      have hpp := HV.out.plc hf0
      have hqq := HV.out.plc ht0
      generalize hpe : plc l frm = p at *
      generalize hqe : plc l to = q at *
      have HPE := Lib.hid hpe; clear hpe
      have HQE := Lib.hid hqe; clear hqe
      obtain ⟨hp1, hp2, hp3⟩ := hpp
      obtain ⟨hq1, hq2, hq3⟩ := hqq
      have HP3 := Lib.hid hp3
      have HQ3 := Lib.hid hq3
      clear hp3 hq3 hq2
      go_wp2_with fail
      refine (HPL1.out).mono ?_
      rintro e w4 ⟨rfl, hb4⟩
      have hB4 := HBR.out.trans (hb4.mono hwr)
      have hpl2 := placeAny (HH.out.below hB4) HV.out to ht0 ht1
      rw [HQE.out] at hpl2
      have HPL2 := Lib.hid hpl2
      have HB4 := Lib.hid hb4
      clear hpl2 hB4 hb4 HPL1
      go_wp2_with fail
      refine (HPL2.out).mono ?_
      rintro e w5 ⟨rfl, hb5⟩
      have hb45 := HB4.out.trans (hb5.mono HB4.out.size)
      have hB5 := HBR.out.trans (hb45.mono hwr)
      have HOI5 := Lib.hid (owns_below HOI.out hb45)
      have hw45 := hb45.size
      have HB5 := Lib.hid hB5
      have hw5 := hB5.size
      clear hb45 hb5 HPL2 hB5
      generalize hn : l.length = n at *
      have HN := Lib.hid hn; clear hn
      obtain ⟨ap, hap⟩ : ∃ ap, ap = atv l p := ⟨_, rfl⟩
      rw [← hap] at hp2
      have c1 : w5.cell? ⟨b, off + p * 2, none⟩ = some (.int .i64 ap) := by rw [hap]; exact (HB5.out.cell (by exact hbw)).trans (HA.out _ hp1)
      have HAP := Lib.hid hap; clear hap
      have hpn : (p : Int) < n := by omega
      have hqn : (q : Int) < n := by omega
      by_cases heq : ap = frm
      · have hbe : (ap == frm) = true := by simp [heq]
        have hpre : preN l frm = p := by unfold preN; rw [HPE.out, ← HAP.out, if_pos heq]
        have HPRE := Lib.hid hpre; clear hpre heq
        have eidx : (p : Int) - 1 + 1 = (p : Int) := by omega
        have hpc : (p : Int) ≤ cap := by omega
        obtain ⟨u, hu⟩ : ∃ u, u = p := ⟨_, rfl⟩
        have hun : u ≤ n := by omega
        have HU := Lib.hid hu; clear hu
        go_wp2_with fail
        rw [← HU.out]
        have hsub := IsSteps.sub (l := l) hcap (HROW.out.below HB5.out hbw) u (by rw [HN.out]; exact hun) (by rw [HN.out]; exact hnc)
        refine (cloneAny hsub (by simp; omega)).mono ?_
        rintro e w6 ⟨⟨vo, rfl, hown6⟩, hb6⟩
        have hlu : (l.take u).length = u := by have := HN.out; simp; omega
        have hvo := hown6
        unfold OwnSteps at hvo
        rw [hlu] at hvo
        have HVO := Lib.hid hvo
        have HOI6 := Lib.hid (owns_below HOI5.out hb6)
        have hw6 := hb6.size
        have HB6 := Lib.hid hb6
        have HLU := Lib.hid hlu
        clear hown6 hvo hlu hsub hb6
        have hb5w : b < w5.heap.size := by omega
        obtain ⟨fq, hfq⟩ : ∃ fq, fq = frv l q := ⟨_, rfl⟩
        have c2 : w6.cell? ⟨b, off + q * 2 + 1, none⟩ = some (.int .i64 fq) := by rw [hfq]; exact (HB6.out.cell (p := ⟨b, _, none⟩) hb5w).trans ((HB5.out.cell (by exact hbw)).trans (HF.out _ hq1))
        have HFQ := Lib.hid hfq
        clear hfq c1
        have hbv : vo.ownBlock ≠ some b := fun e => by have := (World.ownsRow.lt HVO.out) b e; omega
        have hgv : vo.ownBlock ≠ some gi := fun e => by have := (World.ownsRow.lt HVO.out) gi e; omega
        have hq0 : (0 : Int) ≤ (q : Int) := Int.natCast_nonneg _
        have hgi6 : gi < w6.heap.size := by omega
        have hb6 : b < w6.heap.size := by omega
        have hnw : ∀ i x, (flatS inn)[i]? = some x → w6.cell? ((⟨gi, 0, none⟩ : Addr).add i) = some x := fun i x hx => HOI6.out.cells (g := gi) rfl i x hx
        have HNW := Lib.hid hnw
        clear hnw
        have hil : (flatS inn).length = j * 2 := HOI6.out.1
        have HIL := Lib.hid hil
        clear hil
        have hwv : vo.ownBlock ≠ some w6.heap.size := fun e => by have := (World.ownsRow.lt HVO.out) _ e; omega
        have hvr : ∀ k, vo.ownBlock = some k → w5.heap.size ≤ k := fun k hk => ((World.ownsRow.lt HVO.out) k hk).1
        have hraw : addRaw l frm to k = l.take u ++ inn ++ [⟨to, fq⟩] ++ l.drop (q + 1) := by
          unfold addRaw val
          rw [HPRE.out, HQE.out, HINN.out, ← HFQ.out, ← HU.out]
        have HRAW := Lib.hid hraw
        have hrl := addRaw_len (k := k) HV.out hf0 hne
        have hrr := (rises_iff _).1 (addRaw_rises (k := k) HV.out hf0 hne)
        have HRR := Lib.hid hrr
        have hoke : addErr l frm to k = if 20000 < (tidy (addRaw l frm to k)).length then 3 else 0 := by
          unfold addErr
          rw [HCH.out, HP.out, HOK.out]
          simp only [Bool.true_eq_false, if_false]
          rw [if_neg (by omega)]
        have HOKE := Lib.hid hoke
        rw [HN.out] at hrl
        generalize hrg : addRaw l frm to k = raw at *
        have HRG := Lib.hid hrg
        clear hraw hrr hoke hrg
        have hdl : (flatS (l.drop (q + 1))).length = (n - (q + 1)) * 2 := by rw [length_flatS, List.length_drop, HN.out]
        have HDL := Lib.hid hdl
        have hinl : inn.length = j := by have := HIL.out; rw [length_flatS] at this; omega
        have HINL := Lib.hid hinl
        clear hdl hinl
        obtain ⟨i0, hi, hz0, hz1, hz2⟩ := info_parts Try.info38
        go_wp2_with fail
        go_region_held3 (fun w' => w'.cell? ⟨b, off + q * 2 + 1, none⟩ = some (.int .i64 fq)) (first | go_keep | (rw [hgrow7.cell_far ⟨b, off + q * 2 + 1, none⟩ hb6 (Ne.symm hbv)]; assumption) | (rw [hgrow7.cell_far ⟨b, off + q * 2 + 1, none⟩ (lt_alloc hb6) (Ne.symm hbv)]; assumption) | (rw [hgrow8.cell_far ⟨b, off + q * 2 + 1, none⟩ hb7 (Ne.symm hg1b)]; assumption) | (rw [hgrow8.cell_far ⟨b, off + q * 2 + 1, none⟩ (lt_alloc hb7) (Ne.symm hg1b)]; first | assumption | go_keep)) ((first | (refine step_append_lies _ (by rfl) (.tmp 103) (.tmp 104) _ (by rfl) w5.heap.size 38 i0 _ 2 16 Try.underlying33 hi hz0 hz1 hz2 rfl (by omega) vo u (flatS (l.take u)) (by rfl) (by first | exact HVO.out | exact HVO.out.alloc _) ⟨gi, 0, none⟩ j capi (flatS inn) (by rfl) HIL.out (by first | exact HNW.out | exact fun i x hx => Lib.cell?_alloc_some _ (HNW.out i x hx)) (oneCell_flatS inn) (by omega) (by unfold maxLen; omega) (by omega) (by first | omega | (simp; omega)) _ rfl ?_; intro g1 cap1 w7 hown7 hgrow7 hat7 hlt7; have hg1 := ((World.ownsRow.lt hown7) g1 rfl).1; have hw7 : w6.heap.size ≤ w7.heap.size := (by have := hgrow7.size; first | exact this | (simp at this; omega)); have hb7 : b < w7.heap.size := Nat.lt_of_lt_of_le hb6 hw7; have hg1b : (some g1 : Option Nat) ≠ some b := (by simp; omega); have hB7w : w5.heap.size ≤ w7.heap.size := Nat.le_trans hw6 hw7; have hB7 : Below w5.heap.size w6 w7 := (by first | exact ((Below.refl _ _).drew).grown hgrow7 hw6 hvr | exact (((Below.refl _ _).drew).alloc hw6 _).grown hgrow7 (by simp; omega) hvr)) | (refine step_append_lies _ (by rfl) (.tmp 105) (.tmp 113) _ (by rfl) w5.heap.size 38 i0 _ 2 16 Try.underlying33 hi hz0 hz1 hz2 rfl (by omega) _ (u + j) (flatS (l.take u) ++ flatS inn) (by rfl) (by first | exact hown7 | exact hown7.alloc _) _ 1 1 [.int .i64 to, .int .i64 fq] (by rfl) (by rfl) (by first | exact news_at _ _ rfl #[.int .i64 to, .int .i64 fq] 38 | exact news_kept hgrow7 _ hwv _ (news_at _ _ rfl #[.int .i64 to, .int .i64 fq] 38)) (by simp [Value.oneCell']) (by omega) (by unfold maxLen; omega) (by omega) (by first | omega | (simp; omega)) _ rfl ?_; intro g2 cap2 w8 hown8 hgrow8 hat8 hlt8; have hB8 : Below w5.heap.size w6 w8 := (by first | exact hB7.grown hgrow8 hB7w (fun k hk => own_of hk ▸ hg1) | exact (hB7.alloc hB7w _).grown hgrow8 (Nat.le_of_lt (lt_alloc' hB7w)) (fun k hk => own_of hk ▸ hg1)))))
        all_goals
          have HO8 := Lib.hid hown8
          have HBB8 := Lib.hid hB8
          have hw8 := hB8.size
          have HROW8 := Lib.hid (((HROW.out.below HB5.out hbw).below HB6.out hb5w).below hB8 hb5w)
          clear hown8 hB8 hgrow8 hat8 hlt8 hown7 hgrow7 hat7 hlt7 hg1b hB7
          have hw58 : w5.heap.size ≤ w8.heap.size := Nat.le_trans hw6 hw8
          by_cases hcq : cap = q + 1
          · have HDC := Lib.hid (show ∀ ad, ad = (⟨b, off, none⟩ : Addr) → ∀ i x, (flatS (l.drop (q + 1)))[i]? = some x → w8.cell? (ad.add i) = some x from fun ad _ i x hx => by
              have : l.drop (q + 1) = [] := List.drop_eq_nil_of_le (by have := HN.out; omega)
              rw [this] at hx
              simp [flatS] at hx)
            have hn0 : (n : Int) - ((q : Int) + 1) = 0 := by omega
            subst hcq
            obtain rfl : n = q + 1 := by omega
            go_wp2_with (at_builtin; go_loud (refine wpList_append_own _ rfl (.tmp 115) (.tmp 119) 33 rfl w5.heap.size 38 i0 _ 2 16 Try.underlying33 hi hz0 hz1 hz2 rfl (by decide) _ (u + j + 1) _ rfl HO8.out ⟨b, off, none⟩ 0 0 (flatS (l.drop (q + 1))) rfl (by rw [HDL.out]; omega) (by exact HDC.out _ rfl) (oneCell_flatS _) (by unfold maxLen; omega) (by omega) (by omega) ?_))
            intro v9 w9 hown9 hgrow9 hnil9
            have hB9 : Below w5.heap.size w6 w9 := HBB8.out.grown hgrow9 hw58 (fun k hk => own_of hk ▸ ((World.ownsRow.lt HO8.out) g2 rfl).1)
            have hown9' : OwnSteps w9 w5.heap.size v9 raw := by
              unfold OwnSteps
              rw [HRAW.out]
              simp only [flatS_append, List.length_append, HLU.out, HINL.out, List.length_drop, HN.out]
              have e1 : flatS [(⟨to, fq⟩ : Step)] = [.int .i64 to, .int .i64 fq] := rfl
              rw [e1]
              simp only [List.append_assoc, List.cons_append, List.nil_append, List.length_cons, List.length_nil, Nat.zero_add]
              first | exact hown9 | (rw [Nat.sub_self]; exact hown9)
            have htd := tidyAny hown9'.is hrl.1 (Nat.le_trans hrl.2 (by omega)) HRR.out
            have HTD := Lib.hid htd
            have HB9 := Lib.hid (HB6.out.trans (hB9.mono (Nat.le_refl _)))
            clear hown9' htd hown9 hgrow9 hnil9 hB9
            go_wp2_with fail
            refine (HTD.out).mono ?_
            rintro e w10 ⟨⟨v10, rfl, hown10⟩, hb10⟩
            obtain ⟨ao, c10, hv10, hc10, hc10'⟩ := (IsRow.of_owns hown10).shape
            have HO10 := Lib.hid hown10
            have hB10 := HB9.out.trans (hb10.mono HB9.out.size)
            have HB10 := Lib.hid (HB5.out.trans (hB10.mono hw5))
            have hw59 := HB9.out.size
            have hbig : (tidy raw).length ≤ 9223372036854775807 := Nat.le_trans hc10 hc10'
            have HOKE2 := Lib.hid HOKE.out
            clear hown10 hb10 hB10
            by_cases hlong : 20000 < (tidy raw).length
            · have he3 : addErr l frm to k = 3 := by rw [HOKE.out, if_pos hlong]
              have HE3 := Lib.hid he3
              have hd9 : decide ((20000 : Int) < ((tidy raw).length : Int)) = true := by simp; omega
              subst hv10
              clear he3
              generalize (tidy raw).length = mm at *
              go_wp2_with fail
              go_ret2
              exact AddPost.no HE3.out (by omega) HB10.out
            · have he3 : addErr l frm to k = 0 := by rw [HOKE.out, if_neg hlong]
              have hres : addRes l frm to k = tidy raw := by unfold addRes; rw [he3, if_pos rfl, if_neg (by omega), HRG.out]
              have HE3 := Lib.hid he3
              have HRES := Lib.hid hres
              have hd9 : decide ((20000 : Int) < ((tidy raw).length : Int)) = false := by simp; omega
              subst hv10
              clear he3 hres
              have HO11 := Lib.hid (show OwnSteps w10 w.heap.size (.slice ao (tidy raw).length c10) (tidy raw) from OwnSteps.mono HO10.out (by omega))
              clear HO10
              generalize htr : tidy raw = tr at *
              generalize htm : tr.length = mm at *
              have HTM := Lib.hid htm
              clear htm htr
              go_wp2_with fail
              go_ret2
              refine ⟨⟨_, by rw [HE3.out]; rfl, ?_⟩, HB10.out⟩
              rw [HRES.out]
              exact HO11.out
          · have HDC := Lib.hid (show ∀ ad, ad = (⟨b, off + (q + 1) * 2, none⟩ : Addr) → ∀ i x, (flatS (l.drop (q + 1)))[i]? = some x → w8.cell? (ad.add i) = some x from fun ad had i x hx => by
              subst had
              rw [Addr.add_lit, Nat.add_assoc]
              refine HROW8.out _ _ ?_
              have e : flatS l = flatS (l.take (q + 1)) ++ flatS (l.drop (q + 1)) := by rw [← flatS_append, List.take_append_drop]
              have hle : (flatS (l.take (q + 1))).length = (q + 1) * 2 := by rw [length_flatS, List.length_take, HN.out, Nat.min_eq_left (by omega)]
              rw [e, List.getElem?_append_right (by omega), hle, Nat.add_sub_cancel_left]
              exact hx)
            go_wp2_with (at_builtin; refine wpList_append_own _ rfl (.tmp 115) (.tmp 119) 33 rfl w5.heap.size 38 i0 _ 2 16 Try.underlying33 hi hz0 hz1 hz2 rfl (by decide) _ (u + j + 1) _ rfl HO8.out ⟨b, off + (q + 1) * 2, none⟩ (n - (q + 1)) (cap - (q + 1)) (flatS (l.drop (q + 1))) rfl HDL.out (by exact HDC.out _ rfl) (oneCell_flatS _) (by unfold maxLen; omega) (by omega) (by omega) ?_)
            intro v9 w9 hown9 hgrow9 hnil9
            have hB9 : Below w5.heap.size w6 w9 := HBB8.out.grown hgrow9 hw58 (fun k hk => own_of hk ▸ ((World.ownsRow.lt HO8.out) g2 rfl).1)
            have hown9' : OwnSteps w9 w5.heap.size v9 raw := by
              unfold OwnSteps
              rw [HRAW.out]
              simp only [flatS_append, List.length_append, HLU.out, HINL.out, List.length_drop, HN.out]
              have e1 : flatS [(⟨to, fq⟩ : Step)] = [.int .i64 to, .int .i64 fq] := rfl
              rw [e1]
              simp only [List.append_assoc, List.cons_append, List.nil_append, List.length_cons, List.length_nil, Nat.zero_add]
              first | exact hown9 | (rw [Nat.sub_self]; exact hown9)
            have htd := tidyAny hown9'.is hrl.1 (Nat.le_trans hrl.2 (by omega)) HRR.out
            have HTD := Lib.hid htd
            have HB9 := Lib.hid (HB6.out.trans (hB9.mono (Nat.le_refl _)))
            clear hown9' htd hown9 hgrow9 hnil9 hB9
            go_wp2_with fail
            refine (HTD.out).mono ?_
            rintro e w10 ⟨⟨v10, rfl, hown10⟩, hb10⟩
            obtain ⟨ao, c10, hv10, hc10, hc10'⟩ := (IsRow.of_owns hown10).shape
            have HO10 := Lib.hid hown10
            have hB10 := HB9.out.trans (hb10.mono HB9.out.size)
            have HB10 := Lib.hid (HB5.out.trans (hB10.mono hw5))
            have hw59 := HB9.out.size
            have hbig : (tidy raw).length ≤ 9223372036854775807 := Nat.le_trans hc10 hc10'
            have HOKE2 := Lib.hid HOKE.out
            clear hown10 hb10 hB10
            by_cases hlong : 20000 < (tidy raw).length
            · have he3 : addErr l frm to k = 3 := by rw [HOKE.out, if_pos hlong]
              have HE3 := Lib.hid he3
              have hd9 : decide ((20000 : Int) < ((tidy raw).length : Int)) = true := by simp; omega
              subst hv10
              clear he3
              generalize (tidy raw).length = mm at *
              go_wp2_with fail
              go_ret2
              exact AddPost.no HE3.out (by omega) HB10.out
            · have he3 : addErr l frm to k = 0 := by rw [HOKE.out, if_neg hlong]
              have hres : addRes l frm to k = tidy raw := by unfold addRes; rw [he3, if_pos rfl, if_neg (by omega), HRG.out]
              have HE3 := Lib.hid he3
              have HRES := Lib.hid hres
              have hd9 : decide ((20000 : Int) < ((tidy raw).length : Int)) = false := by simp; omega
              subst hv10
              clear he3 hres
              have HO11 := Lib.hid (show OwnSteps w10 w.heap.size (.slice ao (tidy raw).length c10) (tidy raw) from OwnSteps.mono HO10.out (by omega))
              clear HO10
              generalize htr : tidy raw = tr at *
              generalize htm : tr.length = mm at *
              have HTM := Lib.hid htm
              clear htm htr
              go_wp2_with fail
              go_ret2
              refine ⟨⟨_, by rw [HE3.out]; rfl, ?_⟩, HB10.out⟩
              rw [HRES.out]
              exact HO11.out
      · have hbe : (ap == frm) = false := by simp [heq]
        have hpre : preN l frm = p + 1 := by unfold preN; rw [HPE.out, ← HAP.out, if_neg heq]
        have HPRE := Lib.hid hpre; clear hpre heq
        have hpc : (p : Int) + 1 ≤ cap := by omega
        obtain ⟨u, hu⟩ : ∃ u, u = p + 1 := ⟨_, rfl⟩
        have hun : u ≤ n := by omega
        have HU := Lib.hid hu; clear hu
        go_wp2_with fail
        rw [← HU.out]
        have hsub := IsSteps.sub (l := l) hcap (HROW.out.below HB5.out hbw) u (by rw [HN.out]; exact hun) (by rw [HN.out]; exact hnc)
        refine (cloneAny hsub (by simp; omega)).mono ?_
        rintro e w6 ⟨⟨vo, rfl, hown6⟩, hb6⟩
        have hlu : (l.take u).length = u := by have := HN.out; simp; omega
        have hvo := hown6
        unfold OwnSteps at hvo
        rw [hlu] at hvo
        have HVO := Lib.hid hvo
        have HOI6 := Lib.hid (owns_below HOI5.out hb6)
        have hw6 := hb6.size
        have HB6 := Lib.hid hb6
        have HLU := Lib.hid hlu
        clear hown6 hvo hlu hsub hb6
        have hb5w : b < w5.heap.size := by omega
        obtain ⟨fq, hfq⟩ : ∃ fq, fq = frv l q := ⟨_, rfl⟩
        have c2 : w6.cell? ⟨b, off + q * 2 + 1, none⟩ = some (.int .i64 fq) := by rw [hfq]; exact (HB6.out.cell (p := ⟨b, _, none⟩) hb5w).trans ((HB5.out.cell (by exact hbw)).trans (HF.out _ hq1))
        have HFQ := Lib.hid hfq
        clear hfq c1
        have hbv : vo.ownBlock ≠ some b := fun e => by have := (World.ownsRow.lt HVO.out) b e; omega
        have hgv : vo.ownBlock ≠ some gi := fun e => by have := (World.ownsRow.lt HVO.out) gi e; omega
        have hq0 : (0 : Int) ≤ (q : Int) := Int.natCast_nonneg _
        have hgi6 : gi < w6.heap.size := by omega
        have hb6 : b < w6.heap.size := by omega
        have hnw : ∀ i x, (flatS inn)[i]? = some x → w6.cell? ((⟨gi, 0, none⟩ : Addr).add i) = some x := fun i x hx => HOI6.out.cells (g := gi) rfl i x hx
        have HNW := Lib.hid hnw
        clear hnw
        have hil : (flatS inn).length = j * 2 := HOI6.out.1
        have HIL := Lib.hid hil
        clear hil
        have hwv : vo.ownBlock ≠ some w6.heap.size := fun e => by have := (World.ownsRow.lt HVO.out) _ e; omega
        have hvr : ∀ k, vo.ownBlock = some k → w5.heap.size ≤ k := fun k hk => ((World.ownsRow.lt HVO.out) k hk).1
        have hraw : addRaw l frm to k = l.take u ++ inn ++ [⟨to, fq⟩] ++ l.drop (q + 1) := by
          unfold addRaw val
          rw [HPRE.out, HQE.out, HINN.out, ← HFQ.out, ← HU.out]
        have HRAW := Lib.hid hraw
        have hrl := addRaw_len (k := k) HV.out hf0 hne
        have hrr := (rises_iff _).1 (addRaw_rises (k := k) HV.out hf0 hne)
        have HRR := Lib.hid hrr
        have hoke : addErr l frm to k = if 20000 < (tidy (addRaw l frm to k)).length then 3 else 0 := by
          unfold addErr
          rw [HCH.out, HP.out, HOK.out]
          simp only [Bool.true_eq_false, if_false]
          rw [if_neg (by omega)]
        have HOKE := Lib.hid hoke
        rw [HN.out] at hrl
        generalize hrg : addRaw l frm to k = raw at *
        have HRG := Lib.hid hrg
        clear hraw hrr hoke hrg
        have hdl : (flatS (l.drop (q + 1))).length = (n - (q + 1)) * 2 := by rw [length_flatS, List.length_drop, HN.out]
        have HDL := Lib.hid hdl
        have hinl : inn.length = j := by have := HIL.out; rw [length_flatS] at this; omega
        have HINL := Lib.hid hinl
        clear hdl hinl
        obtain ⟨i0, hi, hz0, hz1, hz2⟩ := info_parts Try.info38
        go_wp2_with fail
        go_region_held3 (fun w' => w'.cell? ⟨b, off + q * 2 + 1, none⟩ = some (.int .i64 fq)) (first | go_keep | (rw [hgrow7.cell_far ⟨b, off + q * 2 + 1, none⟩ hb6 (Ne.symm hbv)]; assumption) | (rw [hgrow7.cell_far ⟨b, off + q * 2 + 1, none⟩ (lt_alloc hb6) (Ne.symm hbv)]; assumption) | (rw [hgrow8.cell_far ⟨b, off + q * 2 + 1, none⟩ hb7 (Ne.symm hg1b)]; assumption) | (rw [hgrow8.cell_far ⟨b, off + q * 2 + 1, none⟩ (lt_alloc hb7) (Ne.symm hg1b)]; first | assumption | go_keep)) ((first | (refine step_append_lies _ (by rfl) (.tmp 103) (.tmp 104) _ (by rfl) w5.heap.size 38 i0 _ 2 16 Try.underlying33 hi hz0 hz1 hz2 rfl (by omega) vo u (flatS (l.take u)) (by rfl) (by first | exact HVO.out | exact HVO.out.alloc _) ⟨gi, 0, none⟩ j capi (flatS inn) (by rfl) HIL.out (by first | exact HNW.out | exact fun i x hx => Lib.cell?_alloc_some _ (HNW.out i x hx)) (oneCell_flatS inn) (by omega) (by unfold maxLen; omega) (by omega) (by first | omega | (simp; omega)) _ rfl ?_; intro g1 cap1 w7 hown7 hgrow7 hat7 hlt7; have hg1 := ((World.ownsRow.lt hown7) g1 rfl).1; have hw7 : w6.heap.size ≤ w7.heap.size := (by have := hgrow7.size; first | exact this | (simp at this; omega)); have hb7 : b < w7.heap.size := Nat.lt_of_lt_of_le hb6 hw7; have hg1b : (some g1 : Option Nat) ≠ some b := (by simp; omega); have hB7w : w5.heap.size ≤ w7.heap.size := Nat.le_trans hw6 hw7; have hB7 : Below w5.heap.size w6 w7 := (by first | exact ((Below.refl _ _).drew).grown hgrow7 hw6 hvr | exact (((Below.refl _ _).drew).alloc hw6 _).grown hgrow7 (by simp; omega) hvr)) | (refine step_append_lies _ (by rfl) (.tmp 105) (.tmp 113) _ (by rfl) w5.heap.size 38 i0 _ 2 16 Try.underlying33 hi hz0 hz1 hz2 rfl (by omega) _ (u + j) (flatS (l.take u) ++ flatS inn) (by rfl) (by first | exact hown7 | exact hown7.alloc _) _ 1 1 [.int .i64 to, .int .i64 fq] (by rfl) (by rfl) (by first | exact news_at _ _ rfl #[.int .i64 to, .int .i64 fq] 38 | exact news_kept hgrow7 _ hwv _ (news_at _ _ rfl #[.int .i64 to, .int .i64 fq] 38)) (by simp [Value.oneCell']) (by omega) (by unfold maxLen; omega) (by omega) (by first | omega | (simp; omega)) _ rfl ?_; intro g2 cap2 w8 hown8 hgrow8 hat8 hlt8; have hB8 : Below w5.heap.size w6 w8 := (by first | exact hB7.grown hgrow8 hB7w (fun k hk => own_of hk ▸ hg1) | exact (hB7.alloc hB7w _).grown hgrow8 (Nat.le_of_lt (lt_alloc' hB7w)) (fun k hk => own_of hk ▸ hg1)))))
        all_goals
          have HO8 := Lib.hid hown8
          have HBB8 := Lib.hid hB8
          have hw8 := hB8.size
          have HROW8 := Lib.hid (((HROW.out.below HB5.out hbw).below HB6.out hb5w).below hB8 hb5w)
          clear hown8 hB8 hgrow8 hat8 hlt8 hown7 hgrow7 hat7 hlt7 hg1b hB7
          have hw58 : w5.heap.size ≤ w8.heap.size := Nat.le_trans hw6 hw8
          by_cases hcq : cap = q + 1
          · have HDC := Lib.hid (show ∀ ad, ad = (⟨b, off, none⟩ : Addr) → ∀ i x, (flatS (l.drop (q + 1)))[i]? = some x → w8.cell? (ad.add i) = some x from fun ad _ i x hx => by
              have : l.drop (q + 1) = [] := List.drop_eq_nil_of_le (by have := HN.out; omega)
              rw [this] at hx
              simp [flatS] at hx)
            have hn0 : (n : Int) - ((q : Int) + 1) = 0 := by omega
            subst hcq
            obtain rfl : n = q + 1 := by omega
            go_wp2_with (at_builtin; go_loud (refine wpList_append_own _ rfl (.tmp 115) (.tmp 119) 33 rfl w5.heap.size 38 i0 _ 2 16 Try.underlying33 hi hz0 hz1 hz2 rfl (by decide) _ (u + j + 1) _ rfl HO8.out ⟨b, off, none⟩ 0 0 (flatS (l.drop (q + 1))) rfl (by rw [HDL.out]; omega) (by exact HDC.out _ rfl) (oneCell_flatS _) (by unfold maxLen; omega) (by omega) (by omega) ?_))
            intro v9 w9 hown9 hgrow9 hnil9
            have hB9 : Below w5.heap.size w6 w9 := HBB8.out.grown hgrow9 hw58 (fun k hk => own_of hk ▸ ((World.ownsRow.lt HO8.out) g2 rfl).1)
            have hown9' : OwnSteps w9 w5.heap.size v9 raw := by
              unfold OwnSteps
              rw [HRAW.out]
              simp only [flatS_append, List.length_append, HLU.out, HINL.out, List.length_drop, HN.out]
              have e1 : flatS [(⟨to, fq⟩ : Step)] = [.int .i64 to, .int .i64 fq] := rfl
              rw [e1]
              simp only [List.append_assoc, List.cons_append, List.nil_append, List.length_cons, List.length_nil, Nat.zero_add]
              first | exact hown9 | (rw [Nat.sub_self]; exact hown9)
            have htd := tidyAny hown9'.is hrl.1 (Nat.le_trans hrl.2 (by omega)) HRR.out
            have HTD := Lib.hid htd
            have HB9 := Lib.hid (HB6.out.trans (hB9.mono (Nat.le_refl _)))
            clear hown9' htd hown9 hgrow9 hnil9 hB9
            go_wp2_with fail
            refine (HTD.out).mono ?_
            rintro e w10 ⟨⟨v10, rfl, hown10⟩, hb10⟩
            obtain ⟨ao, c10, hv10, hc10, hc10'⟩ := (IsRow.of_owns hown10).shape
            have HO10 := Lib.hid hown10
            have hB10 := HB9.out.trans (hb10.mono HB9.out.size)
            have HB10 := Lib.hid (HB5.out.trans (hB10.mono hw5))
            have hw59 := HB9.out.size
            have hbig : (tidy raw).length ≤ 9223372036854775807 := Nat.le_trans hc10 hc10'
            have HOKE2 := Lib.hid HOKE.out
            clear hown10 hb10 hB10
            by_cases hlong : 20000 < (tidy raw).length
            · have he3 : addErr l frm to k = 3 := by rw [HOKE.out, if_pos hlong]
              have HE3 := Lib.hid he3
              have hd9 : decide ((20000 : Int) < ((tidy raw).length : Int)) = true := by simp; omega
              subst hv10
              clear he3
              generalize (tidy raw).length = mm at *
              go_wp2_with fail
              go_ret2
              exact AddPost.no HE3.out (by omega) HB10.out
            · have he3 : addErr l frm to k = 0 := by rw [HOKE.out, if_neg hlong]
              have hres : addRes l frm to k = tidy raw := by unfold addRes; rw [he3, if_pos rfl, if_neg (by omega), HRG.out]
              have HE3 := Lib.hid he3
              have HRES := Lib.hid hres
              have hd9 : decide ((20000 : Int) < ((tidy raw).length : Int)) = false := by simp; omega
              subst hv10
              clear he3 hres
              have HO11 := Lib.hid (show OwnSteps w10 w.heap.size (.slice ao (tidy raw).length c10) (tidy raw) from OwnSteps.mono HO10.out (by omega))
              clear HO10
              generalize htr : tidy raw = tr at *
              generalize htm : tr.length = mm at *
              have HTM := Lib.hid htm
              clear htm htr
              go_wp2_with fail
              go_ret2
              refine ⟨⟨_, by rw [HE3.out]; rfl, ?_⟩, HB10.out⟩
              rw [HRES.out]
              exact HO11.out
          · have HDC := Lib.hid (show ∀ ad, ad = (⟨b, off + (q + 1) * 2, none⟩ : Addr) → ∀ i x, (flatS (l.drop (q + 1)))[i]? = some x → w8.cell? (ad.add i) = some x from fun ad had i x hx => by
              subst had
              rw [Addr.add_lit, Nat.add_assoc]
              refine HROW8.out _ _ ?_
              have e : flatS l = flatS (l.take (q + 1)) ++ flatS (l.drop (q + 1)) := by rw [← flatS_append, List.take_append_drop]
              have hle : (flatS (l.take (q + 1))).length = (q + 1) * 2 := by rw [length_flatS, List.length_take, HN.out, Nat.min_eq_left (by omega)]
              rw [e, List.getElem?_append_right (by omega), hle, Nat.add_sub_cancel_left]
              exact hx)
            go_wp2_with (at_builtin; refine wpList_append_own _ rfl (.tmp 115) (.tmp 119) 33 rfl w5.heap.size 38 i0 _ 2 16 Try.underlying33 hi hz0 hz1 hz2 rfl (by decide) _ (u + j + 1) _ rfl HO8.out ⟨b, off + (q + 1) * 2, none⟩ (n - (q + 1)) (cap - (q + 1)) (flatS (l.drop (q + 1))) rfl HDL.out (by exact HDC.out _ rfl) (oneCell_flatS _) (by unfold maxLen; omega) (by omega) (by omega) ?_)
            intro v9 w9 hown9 hgrow9 hnil9
            have hB9 : Below w5.heap.size w6 w9 := HBB8.out.grown hgrow9 hw58 (fun k hk => own_of hk ▸ ((World.ownsRow.lt HO8.out) g2 rfl).1)
            have hown9' : OwnSteps w9 w5.heap.size v9 raw := by
              unfold OwnSteps
              rw [HRAW.out]
              simp only [flatS_append, List.length_append, HLU.out, HINL.out, List.length_drop, HN.out]
              have e1 : flatS [(⟨to, fq⟩ : Step)] = [.int .i64 to, .int .i64 fq] := rfl
              rw [e1]
              simp only [List.append_assoc, List.cons_append, List.nil_append, List.length_cons, List.length_nil, Nat.zero_add]
              first | exact hown9 | (rw [Nat.sub_self]; exact hown9)
            have htd := tidyAny hown9'.is hrl.1 (Nat.le_trans hrl.2 (by omega)) HRR.out
            have HTD := Lib.hid htd
            have HB9 := Lib.hid (HB6.out.trans (hB9.mono (Nat.le_refl _)))
            clear hown9' htd hown9 hgrow9 hnil9 hB9
            go_wp2_with fail
            refine (HTD.out).mono ?_
            rintro e w10 ⟨⟨v10, rfl, hown10⟩, hb10⟩
            obtain ⟨ao, c10, hv10, hc10, hc10'⟩ := (IsRow.of_owns hown10).shape
            have HO10 := Lib.hid hown10
            have hB10 := HB9.out.trans (hb10.mono HB9.out.size)
            have HB10 := Lib.hid (HB5.out.trans (hB10.mono hw5))
            have hw59 := HB9.out.size
            have hbig : (tidy raw).length ≤ 9223372036854775807 := Nat.le_trans hc10 hc10'
            have HOKE2 := Lib.hid HOKE.out
            clear hown10 hb10 hB10
            by_cases hlong : 20000 < (tidy raw).length
            · have he3 : addErr l frm to k = 3 := by rw [HOKE.out, if_pos hlong]
              have HE3 := Lib.hid he3
              have hd9 : decide ((20000 : Int) < ((tidy raw).length : Int)) = true := by simp; omega
              subst hv10
              clear he3
              generalize (tidy raw).length = mm at *
              go_wp2_with fail
              go_ret2
              exact AddPost.no HE3.out (by omega) HB10.out
            · have he3 : addErr l frm to k = 0 := by rw [HOKE.out, if_neg hlong]
              have hres : addRes l frm to k = tidy raw := by unfold addRes; rw [he3, if_pos rfl, if_neg (by omega), HRG.out]
              have HE3 := Lib.hid he3
              have HRES := Lib.hid hres
              have hd9 : decide ((20000 : Int) < ((tidy raw).length : Int)) = false := by simp; omega
              subst hv10
              clear he3 hres
              have HO11 := Lib.hid (show OwnSteps w10 w.heap.size (.slice ao (tidy raw).length c10) (tidy raw) from OwnSteps.mono HO10.out (by omega))
              clear HO10
              generalize htr : tidy raw = tr at *
              generalize htm : tr.length = mm at *
              have HTM := Lib.hid htm
              clear htm htr
              go_wp2_with fail
              go_ret2
              refine ⟨⟨_, by rw [HE3.out]; rfl, ?_⟩, HB10.out⟩
              rw [HRES.out]
              exact HO11.out

/-- steps.Add: what it hands back, of any slice and any numbers. -/
theorem addAny {w : World} {v : Value} {l : List Step} (h : IsSteps w v l) (frm to k : Int) :
    Calls Try.prog 44 #[v, .int .i64 frm, .int .i64 to, .int .i64 k] w (AddPost l frm to k w) := by
  cases hc : chk l
  · exact addBad h hc frm to k
  cases hp : pOk frm to k
  · exact addArg h hc frm to k hp
  · have h1 : frm ≤ to := by simp [pOk] at hp; omega
    by_cases he : frm = to
    · subst he; exact addSame h hc frm k hp
    · exact addMain h hc frm to k hp (by omega)

end Go.Proofs.Ytjknmnmilladlaa

/-
  Walks: steps.New, steps.At.
-/
namespace Go.Proofs.Ytjknmnmilladlaa
open Go.RowKit

set_option maxHeartbeats 1000000 in
theorem stepsNewNo (n : Int) (w : World) (h : n < 0 ∨ 10000 < n) :
    Calls Try.prog 31 #[.int .i64 n] w fun e w' => e = .returned (.tuple #[.slice none 0 0, .int .i64 2]) ∧ w = w' := by
  rcases Int.lt_or_le n 0 with h1 | h1
  · have hd : decide (n < 0) = true := by simpa using h1
    go_enter Try.func31, Try.ntmps31
    go_wp2
    go_ret2
    exact ⟨rfl, rfl⟩
  · have hd : decide (n < 0) = false := by simpa using h1
    have hd2 : decide (10000 < n) = true := by simp; omega
    go_enter Try.func31, Try.ntmps31
    go_wp2
    go_ret2
    exact ⟨rfl, rfl⟩

set_option maxHeartbeats 1000000 in
theorem stepsNewYes (n : Int) (w : World) (h : 0 ≤ n) (h2 : n ≤ 10000) :
    Calls Try.prog 31 #[.int .i64 n] w fun e w' => (∃ v, e = .returned (.tuple #[v, .int .i64 0]) ∧ OwnSteps w' w.heap.size v [⟨0, n⟩]) ∧ Below w.heap.size w w' := by
  have hd : decide (n < 0) = false := by simpa using h
  have hd2 : decide (10000 < n) = false := by simpa using h2
  go_enter Try.func31, Try.ntmps31
  go_wp2
  go_ret2
  refine ⟨⟨_, rfl, ?_⟩, (Below.refl _ _).alloc (Nat.le_refl _) _⟩
  exact World.ownsRow_lit (e := 38) (size := 2) w #[.int .i64 0, .int .i64 n] 1 (Nat.le_refl _) (by unfold maxLen; omega) rfl

def atOf (l : List Step) (t : Int) : Int := if chk l = true ∧ isT t = true then val l t else 0

set_option maxHeartbeats 1000000 in
theorem atAny {w : World} {v : Value} {l : List Step} (h : IsSteps w v l) (t : Int) :
    Calls Try.prog 21 #[v, .int .i64 t] w fun e w' => e = .returned (.int .i64 (atOf l t)) ∧ Below w.heap.size w w' := by
  have HC := Lib.hid (checkAny h)
  cases hc : chk l
  · rw [hc] at HC
    have ha : atOf l t = 0 := by simp [atOf, hc]
    rw [ha]
    have e0 : errOf false = 2 := rfl
    clear ha hc h
    go_enter Try.func21, Try.ntmps21
    go_wp2_with fail
    refine (HC.out).mono ?_
    rintro e w1 ⟨rfl, hb1⟩
    have HB := Lib.hid hb1; clear hb1
    go_wp2_with fail
    go_ret
    exact ⟨rfl, HB.out⟩
  · rw [hc] at HC
    have e0 : errOf true = 0 := rfl
    cases ht : isT t
    · have ha : atOf l t = 0 := by simp [atOf, ht]
      rw [ha]
      clear ha hc h
      go_enter Try.func21, Try.ntmps21
      go_wp2_with fail
      refine (HC.out).mono ?_
      rintro e w1 ⟨rfl, hb1⟩
      have HB := Lib.hid hb1; clear hb1
      go_wp2_with fail
      refine (clockF t _ ht).mono ?_
      rintro e w2 ⟨rfl, rfl⟩
      go_wp2_with fail
      go_ret
      exact ⟨rfl, HB.out⟩
    · have hv := chk_iff.1 hc
      have htt := isT_iff.1 ht
      have ha : atOf l t = val l t := by simp [atOf, hc, ht]
      have HA := Lib.hid ha
      have HV := Lib.hid hv
      have HH := Lib.hid h
      obtain ⟨b, off, cap, rfl, hnc, hcap, hbw, hA, hF, hRow⟩ := h.cells hv.pos
      have HF := Lib.hid hF
      have hp := (hv.plc htt.1).1
      clear ha hc h hv hA hRow hF
      go_enter Try.func21, Try.ntmps21
      go_wp2_with fail
      refine (HC.out).mono ?_
      rintro e w1 ⟨rfl, hb1⟩
      have hpl := placeAny (HH.out.below hb1) HV.out t htt.1 htt.2
      generalize hpe : plc l t = p at *
      have HPE := Lib.hid hpe
      have HPL := Lib.hid hpl
      have HB := Lib.hid hb1
      have hbw1 : b < w1.heap.size := Nat.lt_of_lt_of_le hbw hb1.size
      clear hb1 hpe hpl
      generalize hn : l.length = n at *
      clear hn
      go_wp2_with fail
      refine (clockT t _ ht).mono ?_
      rintro e w2 ⟨rfl, rfl⟩
      go_wp2_with fail
      refine (HPL.out).mono ?_
      rintro e w3 ⟨rfl, hb3⟩
      have hpn : (p : Int) < n := by omega
      obtain ⟨fp, hfp⟩ : ∃ fp, fp = frv l p := ⟨_, rfl⟩
      have c1 : w3.cell? ⟨b, off + p * 2 + 1, none⟩ = some (.int .i64 fp) := by rw [hfp]; exact (hb3.cell (by exact hbw1)).trans ((HB.out.cell (by exact hbw)).trans (HF.out _ hp))
      have HFP := Lib.hid hfp
      have HB3 := Lib.hid hb3
      clear hfp hb3
      go_wp2_with fail
      go_ret
      refine ⟨ret_int ?_, HB.out.trans (HB3.out.mono HB.out.size)⟩
      rw [HA.out, HFP.out]
      unfold val
      rw [HPE.out]

end Go.Proofs.Ytjknmnmilladlaa

/-
  A map from ids to slots as a plain list of slots: look-up, length, store of a new one, delete; and ranging over it.
-/
namespace Go.Proofs.Ytjknmnmilladlaa
open Go.RowKit Go.MapKept Go.ChangeMaps

def entKV (s : Slot) : Value × Value := (.int .i64 s.id, slotV s)
def eKV (e : MapEntry) : Value × Value := (e.key, e.val)

theorem entKV_inj {a b : Slot} (h : entKV a = entKV b) : a = b := by
  simp only [entKV, slotV, Prod.mk.injEq, Value.agg.injEq, Value.int.injEq] at h
  obtain ⟨_, h2⟩ := h
  simp at h2
  obtain ⟨h3, h4, h5, h6⟩ := h2
  cases a; cases b; simp_all

/-- The entries are the slots, in their order. -/
structure Ents (es : Array MapEntry) (clock : Nat) (L : List Slot) : Prop where
  kv : es.toList.map eKV = L.map entKV
  st : Stamped es clock

def MapIs (w : World) (bm : Nat) (L : List Slot) : Prop := ∃ es clock, w.heap[bm]? = some (.map es clock) ∧ Ents es clock L

theorem MapIs.made (w : World) : MapIs (w.alloc (.map #[] 0)) w.heap.size [] := ⟨#[], 0, heap_alloc_new w _, rfl, stamped_empty 0⟩
theorem MapIs.of_block {w w' : World} {bm : Nat} {L : List Slot} (h : MapIs w bm L) (hb : w'.heap[bm]? = w.heap[bm]?) : MapIs w' bm L := by
  obtain ⟨es, clock, h1, h2⟩ := h
  exact ⟨es, clock, hb.trans h1, h2⟩
theorem MapIs.lt {w : World} {bm : Nat} {L : List Slot} (h : MapIs w bm L) : bm < w.heap.size := by
  obtain ⟨es, clock, h1, h2⟩ := h
  exact (Array.getElem?_eq_some_iff.1 h1).1
theorem MapIs.alloc {w : World} {bm : Nat} {L : List Slot} (h : MapIs w bm L) (o : Obj) : MapIs (w.alloc o) bm L := h.of_block (heap_alloc_old w o h.lt)
theorem MapIs.drew {w : World} {bm : Nat} {L : List Slot} (h : MapIs w bm L) : MapIs w.drew bm L := h
theorem MapIs.below {w w' : World} {B bm : Nat} {L : List Slot} (h : MapIs w bm L) (hB : Below B w w') (hb : bm < B) : MapIs w' bm L := h.of_block (hB.block bm hb)
/-- A map's block has no cells. -/
theorem MapIs.cell {w : World} {bm o : Nat} {L : List Slot} (h : MapIs w bm L) : w.cell? ⟨bm, o, none⟩ = none := by
  obtain ⟨es, clock, h1, h2⟩ := h
  simp [World.cell?, h1]
theorem MapIs.ne {w : World} {bm b o : Nat} {L : List Slot} (h : MapIs w bm L) {u : Value} (hc : w.cell? ⟨b, o, none⟩ = some u) : b ≠ bm := by
  intro e
  subst e
  rw [h.cell] at hc
  cases hc
theorem MapIs.setCell {w : World} {bm : Nat} {L : List Slot} (h : MapIs w bm L) (a : Addr) (u : Value) : MapIs (w.setCell a u) bm L := by
  obtain ⟨es, clock, h1, h2⟩ := h
  refine ⟨es, clock, ?_, h2⟩
  simp only [World.setCell, Array.getElem?_modify]
  split
  · rw [h1]; rfl
  · exact h1

theorem Ents.isKey {es : Array MapEntry} {clock : Nat} {L : List Slot} (h : Ents es clock L) : ∀ x ∈ es.toList, IsKey (.int .i64) x.key := by
  intro x hx
  have : eKV x ∈ L.map entKV := by rw [← h.kv]; exact List.mem_map_of_mem hx
  obtain ⟨s, _, hs⟩ := List.mem_map.1 this
  have : x.key = .int .i64 s.id := (congrArg Prod.fst hs).symm
  rw [this]
  rfl

theorem Ents.at_ {es : Array MapEntry} {clock : Nat} {L : List Slot} (h : Ents es clock L) {j : Nat} {e : MapEntry} (hj : es.toList[j]? = some e) : ∃ s, L[j]? = some s ∧ eKV e = entKV s := by
  have h1 : (es.toList.map eKV)[j]? = some (eKV e) := by rw [List.getElem?_map, hj]; rfl
  rw [h.kv, List.getElem?_map] at h1
  cases hs : L[j]? with
  | none => rw [hs] at h1; cases h1
  | some s => rw [hs] at h1; exact ⟨s, rfl, (Option.some.inj h1).symm⟩

theorem Ents.ids {es : Array MapEntry} {clock : Nat} {L : List Slot} (h : Ents es clock L) : L.Pairwise fun a b => a.id ≠ b.id := by
  have h3 := ((stamped_iff es clock).1 h.st).2.2
  have h4 : (es.toList.map eKV).Pairwise fun a b => a.1 ≠ b.1 := by rw [List.pairwise_map]; exact h3
  rw [h.kv, List.pairwise_map] at h4
  refine h4.imp fun hne he => hne ?_
  simp [entKV, he]
theorem MapIs.ids {w : World} {bm : Nat} {L : List Slot} (h : MapIs w bm L) : L.Pairwise fun a b => a.id ≠ b.id := by
  obtain ⟨es, clock, h1, h2⟩ := h
  exact h2.ids

theorem slot_one {L : List Slot} (h : L.Pairwise fun a b => a.id ≠ b.id) {a b : Slot} (ha : a ∈ L) (hb : b ∈ L) (he : a.id = b.id) : a = b := by
  induction L with
  | nil => simp at ha
  | cons c L ih =>
    obtain ⟨h1, h2⟩ := List.pairwise_cons.1 h
    rcases List.mem_cons.1 ha with rfl | ha'
    · rcases List.mem_cons.1 hb with rfl | hb'
      · rfl
      · exact absurd he (h1 b hb')
    · rcases List.mem_cons.1 hb with rfl | hb'
      · exact absurd he.symm (h1 a ha')
      · exact ih h2 ha' hb'

/-- Where an id lies. -/
theorem Ents.find {es : Array MapEntry} {clock : Nat} {L : List Slot} (h : Ents es clock L) (id : Int) (w : World) :
    ((Instr.findKey 3 (.int .i64 id) es.toList).run Try.prog w = .ok none w ∧ (∀ s ∈ L, s.id ≠ id) ∧ ∀ x ∈ es.toList, x.key ≠ .int .i64 id) ∨
    ∃ j s e, L[j]? = some s ∧ s.id = id ∧ es.toList[j]? = some e ∧ e.key = .int .i64 id ∧ e.val = slotV s ∧ (Instr.findKey 3 (.int .i64 id) es.toList).run Try.prog w = .ok (some (j, slotV s)) w := by
  rcases findNow_spec (d := .int .i64) (k := .int .i64 id) rfl es.toList 0 h.isKey with ⟨f1, f2⟩ | ⟨j, e, f1, f2, f3⟩
  · refine .inl ⟨run_findKey Try.underlying3 f1, fun s hs he => ?_, f2⟩
    have : entKV s ∈ es.toList.map eKV := by rw [h.kv]; exact List.mem_map_of_mem hs
    obtain ⟨x, hx, hxe⟩ := List.mem_map.1 this
    refine f2 x hx ?_
    have : x.key = .int .i64 s.id := congrArg Prod.fst hxe
    rw [this, he]
  · obtain ⟨s, hs, hse⟩ := h.at_ f2
    have hk : e.key = .int .i64 s.id := congrArg Prod.fst hse
    have hv : e.val = slotV s := congrArg Prod.snd hse
    have hid : s.id = id := by rw [hk] at f3; simpa using f3
    refine .inr ⟨j, s, e, hs, hid, f2, f3, hv, ?_⟩
    rw [← hv]
    simpa using run_findKey Try.underlying3 f1

theorem check3 (w : World) (em : Bool) (id : Int) : (Instr.checkKey em 10000 3 (.int .i64 id)).run Try.prog w = .ok () w := run_checkKey (d := .int .i64) Try.underlying3 (by simp [IsKey]) em 9999

/-- 'm[id]': there. -/
theorem MapIs.look_yes {w : World} {bm : Nat} {L : List Slot} (h : MapIs w bm L) {s : Slot} (hs : s ∈ L) (c : Bool) :
    (Instr.lookup 72 (.map (some bm)) (.int .i64 s.id) c).run Try.prog w = .ok (if c then .tuple #[slotV s, .bool true] else slotV s) w := by
  obtain ⟨es, clock, hb, hE⟩ := h
  rcases hE.find s.id w with ⟨_, f2, _⟩ | ⟨j, s', e, hj, hid, _, _, _, f⟩
  · exact absurd rfl (f2 s hs)
  · obtain rfl : s' = s := slot_one hE.ids (List.mem_of_getElem? hj) hs hid
    simp [Instr.lookup, run_underlying Try.underlying72, Go.MapKept.run_getObj_map hb, check3, f, Result.andThen]
/-- .. not there. -/
theorem MapIs.look_no {w : World} {bm : Nat} {L : List Slot} (h : MapIs w bm L) {id : Int} (hs : ∀ s ∈ L, s.id ≠ id) (c : Bool) :
    (Instr.lookup 72 (.map (some bm)) (.int .i64 id) c).run Try.prog w = .ok (if c then .tuple #[slotV ⟨0, 0, 0, 0⟩, .bool false] else slotV ⟨0, 0, 0, 0⟩) w := by
  obtain ⟨es, clock, hb, hE⟩ := h
  rcases hE.find id w with ⟨f, _, _⟩ | ⟨j, s', e, hj, hid, _, _, _, f⟩
  · simp [Instr.lookup, run_underlying Try.underlying72, Go.MapKept.run_getObj_map hb, check3, f, Result.andThen, slotV]
  · exact absurd hid (hs s' (List.mem_of_getElem? hj))

theorem Ents.len {es : Array MapEntry} {clock : Nat} {L : List Slot} (h : Ents es clock L) : es.size = L.length := by
  have := congrArg List.length h.kv
  simpa using this

theorem MapIs.len {w : World} {bm : Nat} {L : List Slot} (h : MapIs w bm L) (ty : TypeId) : (Builtin.len_ #[72] ty #[.map (some bm)]).run Try.prog w = .ok (.int .i64 L.length) w := by
  obtain ⟨es, clock, hb, hE⟩ := h
  simp [Builtin.len_, run_underlying Try.underlying72, Go.MapKept.run_getObj_map hb, goInt, Result.andThen, hE.len]

theorem grown_setBlock {w : World} {b : Nat} {es es' : Array MapEntry} {clock clock' : Nat} (hb : w.heap[b]? = some (.map es clock)) : w.grownBy (setBlock w b (.map es' clock')) (some b) :=
  ⟨rfl, rfl, rfl, by simp [setBlock], fun i _ hi => heap_setBlock_other hb _ (fun e => hi (by rw [e]))⟩

/-- 'm[s.ID] = s', a new one. -/
theorem MapIs.put {w : World} {bm : Nat} {L : List Slot} (h : MapIs w bm L) {s : Slot} (hs : ∀ x ∈ L, x.id ≠ s.id) :
    ∃ w', (Instr.mapUpdate 72 (.map (some bm)) (.int .i64 s.id) (slotV s)).run Try.prog w = .ok () w' ∧ MapIs w' bm (L ++ [s]) ∧ w.mapTurned w' bm := by
  obtain ⟨es, clock, hb, hE⟩ := h
  rcases hE.find s.id w with ⟨f, _, f3⟩ | ⟨j, s', e, hj, hid, _, _, _, f⟩
  · refine ⟨setBlock w bm (.map (es.push { key := .int .i64 s.id, val := slotV s, born := clock }) (clock + 1)), ?_, ⟨_, _, heap_setBlock_same hb _, ?_, stamped_push hE.st f3⟩, ⟨es, clock, _, _, hb, rfl⟩⟩
    · simp [Instr.mapUpdate, run_underlying Try.underlying72, Go.MapKept.run_getObj_map hb, check3, f, Go.MapKept.run_setObj_map _ hb, Result.andThen, setBlock]
    · simp only [Array.toList_push, List.map_append, List.map_cons, List.map_nil, hE.kv]
      rfl
  · exact absurd hid (hs s' (List.mem_of_getElem? hj))

theorem stamped_erase {es : Array MapEntry} {clock : Nat} (h : Stamped es clock) (j : Nat) : Stamped (es.eraseIdxIfInBounds j) clock := by
  have hsub : (es.eraseIdxIfInBounds j).toList.Sublist es.toList := by
    rw [Array.toList_eraseIdxIfInBounds]
    exact List.eraseIdx_sublist _ _
  obtain ⟨h1, h2, h3⟩ := (stamped_iff es clock).1 h
  exact (stamped_iff _ _).2 ⟨fun x hx => h1 x (hsub.subset hx), h2.sublist (hsub.map _), h3.sublist hsub⟩

theorem filter_erase {L : List Slot} (h : L.Pairwise fun a b => a.id ≠ b.id) {j : Nat} {s : Slot} (hj : L[j]? = some s) : L.eraseIdx j = L.filter fun x => decide (x.id ≠ s.id) := by
  induction L generalizing j with
  | nil => simp at hj
  | cons a L ih =>
    obtain ⟨h1, h2⟩ := List.pairwise_cons.1 h
    cases j with
    | zero =>
      simp at hj
      subst hj
      simp only [List.eraseIdx_cons_zero, ne_eq, decide_not]
      rw [List.filter_cons_of_neg (by simp)]
      symm
      rw [List.filter_eq_self]
      intro x hx
      have := h1 x hx
      simp
      omega
    | succ j =>
      simp at hj
      have hs : a.id ≠ s.id := h1 s (List.mem_of_getElem? hj)
      simp only [List.eraseIdx_cons_succ]
      rw [List.filter_cons_of_pos (by simpa using hs), ih h2 hj]

/-- 'delete(m, id)'. -/
theorem MapIs.del {w : World} {bm : Nat} {L : List Slot} (h : MapIs w bm L) (id : Int) (ty : TypeId) :
    ∃ w', (Builtin.delete_ #[72, 3] ty #[.map (some bm), .int .i64 id]).run Try.prog w = .ok (.tuple #[]) w' ∧ MapIs w' bm (L.filter fun x => decide (x.id ≠ id)) ∧ w.mapTurned w' bm := by
  obtain ⟨es, clock, hb, hE⟩ := h
  rcases hE.find id w with ⟨f, f2, _⟩ | ⟨j, s, e, hj, hid, hej, _, _, f⟩
  · refine ⟨setBlock w bm (.map es clock), ?_, ⟨es, clock, heap_setBlock_same hb _, ?_⟩, ⟨es, clock, _, _, hb, rfl⟩⟩
    · simp [Builtin.delete_, run_underlying Try.underlying72, Go.MapKept.run_getObj_map hb, check3, f, Go.MapKept.run_setObj_map _ hb, Result.andThen, setBlock]
    · have : (L.filter fun x => decide (x.id ≠ id)) = L := by
        rw [List.filter_eq_self]
        intro x hx
        simpa using f2 x hx
      rw [this]
      exact hE
  · refine ⟨setBlock w bm (.map (es.eraseIdxIfInBounds j) clock), ?_, ⟨_, clock, heap_setBlock_same hb _, ?_, stamped_erase hE.st j⟩, ⟨es, clock, _, _, hb, rfl⟩⟩
    · simp [Builtin.delete_, run_underlying Try.underlying72, Go.MapKept.run_getObj_map hb, check3, f, Go.MapKept.run_setObj_map _ hb, Result.andThen, setBlock]
    · rw [Array.toList_eraseIdxIfInBounds, map_eraseIdx, hE.kv, ← map_eraseIdx, ← hid, filter_erase hE.ids hj]

/-! ### ranging -/
def RangeIs (w : World) (bm r : Nat) (L left : List Slot) : Prop :=
  ∃ es clock since seen c0, w.heap[bm]? = some (.map es clock) ∧ Ents es clock L ∧ w.heap[r]? = some (.mapIter (some bm) since seen c0) ∧ (∀ x ∈ es.toList, x.born < since) ∧ since ≤ c0 ∧ since ≤ clock ∧
    (leftOf es seen).toList.map eKV = left.map entKV

theorem RangeIs.mapIs {w : World} {bm r : Nat} {L left : List Slot} (h : RangeIs w bm r L left) : MapIs w bm L := by
  obtain ⟨es, clock, since, seen, c0, hb, hE, _⟩ := h
  exact ⟨es, clock, hb, hE⟩
theorem RangeIs.lt {w : World} {bm r : Nat} {L left : List Slot} (h : RangeIs w bm r L left) : r < w.heap.size := by
  obtain ⟨es, clock, since, seen, c0, _, _, hr, _⟩ := h
  exact (Array.getElem?_eq_some_iff.1 hr).1
theorem RangeIs.of_blocks {w w' : World} {bm r : Nat} {L left : List Slot} (h : RangeIs w bm r L left) (hb : w'.heap[bm]? = w.heap[bm]?) (hr : w'.heap[r]? = w.heap[r]?) : RangeIs w' bm r L left := by
  obtain ⟨es, clock, since, seen, c0, h1, h2, h3, h4⟩ := h
  exact ⟨es, clock, since, seen, c0, hb.trans h1, h2, hr.trans h3, h4⟩
theorem RangeIs.alloc {w : World} {bm r : Nat} {L left : List Slot} (h : RangeIs w bm r L left) (o : Obj) : RangeIs (w.alloc o) bm r L left := h.of_blocks (heap_alloc_old w o h.mapIs.lt) (heap_alloc_old w o h.lt)
theorem RangeIs.drew {w : World} {bm r : Nat} {L left : List Slot} (h : RangeIs w bm r L left) : RangeIs w.drew bm r L left := h
theorem RangeIs.below {w w' : World} {B bm r : Nat} {L left : List Slot} (h : RangeIs w bm r L left) (hB : Below B w w') (hb : bm < B) (hr : r < B) : RangeIs w' bm r L left := h.of_blocks (hB.block bm hb) (hB.block r hr)
theorem RangeIs.grown {w w' : World} {row : Option Nat} {bm r : Nat} {L left : List Slot} (h : RangeIs w bm r L left) (hg : w.grownBy w' row) (hb : some bm ≠ row) (hr : some r ≠ row) : RangeIs w' bm r L left :=
  h.of_blocks (hg.block bm h.mapIs.lt hb) (hg.block r h.lt hr)

/-- 'range m'. -/
theorem MapIs.range {w : World} {bm : Nat} {L : List Slot} (h : MapIs w bm L) :
    ∃ w', (Instr.range 72 (.map (some bm))).run Try.prog w = .ok (.pointer (some ⟨w.heap.size, 0, none⟩)) w' ∧ RangeIs w' bm w.heap.size L L ∧ Below w.heap.size w w' ∧ w'.heap.size = w.heap.size + 1 := by
  have hlt := h.lt
  obtain ⟨es, clock, hb, hE⟩ := h
  refine ⟨_, run_range_map w 72 3 29 bm es clock Try.underlying72 hb, ⟨es, clock, clock, #[], clock, (heap_alloc_old w _ hlt).trans hb, hE, heap_alloc_new w _, hE.st.1, Nat.le_refl _, Nat.le_refl _, ?_⟩, (Below.refl _ _).alloc (Nat.le_refl _) _, by simp⟩
  rw [← hE.kv]
  simp only [leftOf, Array.toList_filter]
  congr 1
  rw [List.filter_eq_self]
  simp

theorem left_after {es : Array MapEntry} {seen : Array Nat} (hn : (es.toList.map (·.born)).Nodup) {a b : List MapEntry} {e : MapEntry} (h : (leftOf es seen).toList = a ++ e :: b) : (leftOf es (seen.push e.born)).toList = a ++ b := by
  have h1 : (leftOf es (seen.push e.born)).toList = (leftOf es seen).toList.filter fun x => !(x.born == e.born) := by
    simp only [leftOf, Array.toList_filter, List.filter_filter]
    congr 1
    funext x
    simp only [Array.contains_push, Bool.not_or]
    rw [Bool.and_comm]
  have h2 : ((leftOf es seen).toList.map (·.born)).Nodup := by
    refine hn.sublist ?_
    simp only [leftOf, Array.toList_filter]
    exact List.filter_sublist.map _
  rw [h] at h1 h2
  rw [h1]
  rw [List.map_append, List.map_cons, List.nodup_append] at h2
  obtain ⟨_, h4, h5⟩ := h2
  rw [List.nodup_cons] at h4
  rw [List.filter_append, List.filter_cons_of_neg (by simp)]
  congr 1
  · rw [List.filter_eq_self]
    intro x hx
    have := h5 x.born (List.mem_map_of_mem hx) e.born (by simp)
    simpa using this
  · rw [List.filter_eq_self]
    intro x hx
    have : x.born ≠ e.born := fun he => h4.1 (he ▸ List.mem_map_of_mem hx)
    simpa using this

/-- The step. -/
theorem RangeIs.next {w : World} {bm r : Nat} {L left : List Slot} (h : RangeIs w bm r L left) (ty : TypeId) :
    (left = [] ∧ (Instr.next (.pointer (some ⟨r, 0, none⟩)) false ty).run Try.prog w = .ok (.tuple #[.bool false]) w) ∨
    ∃ s a b w', left = a ++ s :: b ∧ (Instr.next (.pointer (some ⟨r, 0, none⟩)) false ty).run Try.prog w = .ok (.tuple #[.bool true, .int .i64 s.id, slotV s]) w' ∧ RangeIs w' bm r L (a ++ b) ∧ w.grownBy w' (some r) ∧
      w'.heap.size = w.heap.size ∧ (Instr.entry (.pointer (some ⟨r, 0, none⟩))).run Try.prog w' = .ok (.tuple #[.int .i64 s.id, slotV s]) w' := by
  obtain ⟨es, clock, since, seen, c0, hb, hE, hr, hold, hsc, hsk, hleft⟩ := h
  have hne : r ≠ bm := by
    intro e
    rw [e, hb] at hr
    cases hr
  rcases run_next_at (P := Try.prog) w ty r bm since c0 seen es clock hr hb hold hsc with ⟨h0, hrun⟩ | ⟨e, he, w1, hal, hrun⟩
  · refine .inl ⟨?_, hrun⟩
    have : (leftOf es seen).toList = [] := by simpa using h0
    rw [this] at hleft
    cases left with
    | nil => rfl
    | cons a l => simp at hleft
  · obtain ⟨a, b, hab⟩ := List.append_of_mem he
    rw [hab, List.map_append, List.map_cons] at hleft
    obtain ⟨a', sb, hl, ha', hsb⟩ := List.map_eq_append_iff.1 hleft.symm
    obtain ⟨s, b', rfl, hs, hb'⟩ := List.map_eq_cons_iff.1 hsb
    have hk : e.key = .int .i64 s.id := (congrArg Prod.fst hs).symm
    have hv : e.val = slotV s := (congrArg Prod.snd hs).symm
    have hst := (stamped_iff es clock).1 hE.st
    have hem : e ∈ es.toList := by
      simp only [leftOf, Array.toList_filter, List.mem_filter] at he
      exact he.1
    have hr1 : w1.heap[r]? = some (.mapIter (some bm) since seen c0) := by rcases hal with rfl | rfl <;> exact hr
    have hb1 : w1.heap[bm]? = some (.map es clock) := by rcases hal with rfl | rfl <;> exact hb
    have hset := heap_set (o' := .mapIter (some bm) since (seen.push e.born) clock) hr1
    have hent := run_entry_at (P := Try.prog) (setBlock w1 r (.mapIter (some bm) since (seen.push e.born) clock)) r bm since seen es clock e hset.1 ((hset.2 bm (Ne.symm hne)).trans hb1) hem hst.2.1
    rw [hk, hv] at hrun hent
    refine .inr ⟨s, a', b', setBlock w1 r (.mapIter (some bm) since (seen.push e.born) clock), hl, hrun, ⟨es, clock, since, seen.push e.born, clock, (hset.2 bm (Ne.symm hne)).trans hb1, hE, hset.1, hold, hsk, hsk, ?_⟩, ?_, ?_, hent⟩
    · rw [left_after hst.2.1 hab, List.map_append, List.map_append, ha', hb']
    · refine ⟨?_, ?_, ?_, ?_, fun i hi hi2 => ?_⟩
      · rcases hal with rfl | rfl <;> rfl
      · rcases hal with rfl | rfl <;> rfl
      · rcases hal with rfl | rfl <;> rfl
      · rcases hal with rfl | rfl <;> simp [setBlock]
      · have : (setBlock w1 r (.mapIter (some bm) since (seen.push e.born) clock)).heap[i]? = w1.heap[i]? := hset.2 i (fun e => hi2 (by rw [e]))
        rw [this]
        rcases hal with rfl | rfl <;> rfl
    · rcases hal with rfl | rfl <;> simp [setBlock]

end Go.Proofs.Ytjknmnmilladlaa

/-
  The book in memory: its block, its map's block, and how it is carried.
-/
namespace Go.Proofs.Ytjknmnmilladlaa
open Go.RowKit Go.MapKept Go.ChangeMaps

/-- w' is w but for the blocks bk and bm, and for new blocks. -/
structure Kept (bk bm : Nat) (w w' : World) : Prop where
  os : w'.os = w.os
  tape : w'.tape = w.tape
  output : w'.output = w.output
  size : w.heap.size ≤ w'.heap.size
  block : ∀ k, k < w.heap.size → k ≠ bk → k ≠ bm → w'.heap[k]? = w.heap[k]?

theorem Kept.refl (bk bm : Nat) (w : World) : Kept bk bm w w := ⟨rfl, rfl, rfl, Nat.le_refl _, fun _ _ _ _ => rfl⟩
theorem Kept.trans {bk bm : Nat} {a b c : World} (h : Kept bk bm a b) (k : Kept bk bm b c) : Kept bk bm a c :=
  ⟨k.os.trans h.os, k.tape.trans h.tape, k.output.trans h.output, Nat.le_trans h.size k.size, fun i hi h1 h2 => (k.block i (Nat.lt_of_lt_of_le hi h.size) h1 h2).trans (h.block i hi h1 h2)⟩
theorem Kept.of_below {bk bm : Nat} {w w' : World} (h : Below w.heap.size w w') : Kept bk bm w w' := ⟨h.os, h.tape, h.output, h.size, fun k hk _ _ => h.block k hk⟩
theorem Kept.drew {bk bm : Nat} {a w : World} (h : Kept bk bm a w) : Kept bk bm a w.drew := ⟨h.os, h.tape, h.output, h.size, h.block⟩
theorem Kept.alloc {bk bm : Nat} {a w : World} (h : Kept bk bm a w) (o : Obj) : Kept bk bm a (w.alloc o) := h.trans (.of_below ((Below.refl _ _).alloc (Nat.le_refl _) o))
theorem Kept.set {bk bm : Nat} {a w : World} (h : Kept bk bm a w) (o : Nat) (u : Value) : Kept bk bm a (w.setCell ⟨bk, o, none⟩ u) :=
  h.trans ⟨rfl, rfl, rfl, by simp [World.setCell], fun k _ h1 _ => Below.heap_setCell _ _ _ _ h1⟩
theorem Kept.turned {bk bm : Nat} {a w w' : World} (h : Kept bk bm a w) (ht : w.mapTurned w' bm) : Kept bk bm a w' :=
  h.trans ⟨ht.grown.os, ht.grown.tape, ht.grown.output, ht.grown.size, fun k hk _ h2 => ht.grown.block k hk (fun e => h2 (by cases e; rfl))⟩
/-- Where both blocks are new, nothing old has turned. -/
theorem Kept.below {bk bm B : Nat} {w w' : World} (h : Kept bk bm w w') (h1 : B ≤ bk) (h2 : B ≤ bm) (h3 : B ≤ w.heap.size) : Below B w w' :=
  ⟨h.os, h.tape, h.output, h.size, fun k hk => h.block k (by omega) (by omega) (by omega)⟩
theorem Kept.cell {bk bm : Nat} {w w' : World} (h : Kept bk bm w w') {b o : Nat} (hb : b < w.heap.size) (h1 : b ≠ bk) (h2 : b ≠ bm) : w'.cell? ⟨b, o, none⟩ = w.cell? ⟨b, o, none⟩ := World.cell?_of_block (w := w) (h.block b hb h1 h2)

/-- A slice's row does not lie in block bk. -/
def Apart (bk : Nat) (v : Value) : Prop := ∀ a n cap, v = .slice (some a) n cap → 0 < n → a.block ≠ bk

theorem Apart.own {w : World} {B e k bk n : Nat} {v : Value} {xs : List Value} (h : w.ownsRow B e k v n xs) (hB : bk < B) : Apart bk v := by
  intro a n' cap hv _ hb
  rcases h.2 with ⟨h1, _⟩ | ⟨g, cap', cur, h1, h2, _⟩
  · rw [h1] at hv; cases hv
  · rw [h1] at hv
    cases hv
    have hb2 : g = bk := hb
    omega
theorem IsRow.kept {w w' : World} {bk bm k : Nat} {v : Value} {n : Nat} {xs : List Value} {L : List Slot} (hk : 0 < k) (h : IsRow w k v n xs) (hK : Kept bk bm w w') (ha : Apart bk v) (hm : MapIs w bm L) : IsRow w' k v n xs := by
  obtain ⟨hl, ao, cap, rfl, h1, h2, h3⟩ := h
  refine ⟨hl, ao, cap, rfl, h1, h2, fun hn => ?_⟩
  obtain ⟨b, off, rfl, hr⟩ := h3 hn
  have hx : xs ≠ [] := by
    intro e
    rw [e] at hl
    have : 0 < n * k := Nat.mul_pos hn hk
    simp at hl
    omega
  have hlt := hr.lt hx
  have hne : b ≠ bk := ha _ _ _ rfl hn
  have hnm : b ≠ bm := by
    cases xs with
    | nil => exact absurd rfl hx
    | cons x xs => exact hm.ne (hr 0 x rfl)
  exact ⟨b, off, rfl, hr.same fun o => hK.cell hlt hne hnm⟩

/-- The book's block, and all it leads to. -/
structure BookIs (w : World) (bk bm : Nat) (n : Int) (up fr : List Step) (L : List Slot) : Prop where
  c0 : w.cell? ⟨bk, 0, none⟩ = some (.int .i64 n)
  c1 : ∃ vu, w.cell? ⟨bk, 1, none⟩ = some vu ∧ IsSteps w vu up ∧ Apart bk vu
  c2 : ∃ vf, w.cell? ⟨bk, 2, none⟩ = some vf ∧ IsSteps w vf fr ∧ Apart bk vf
  c3 : w.cell? ⟨bk, 3, none⟩ = some (.map (some bm))
  fz : ∀ o, w.frozen? ⟨bk, o, none⟩ = false
  map : MapIs w bm L

theorem BookIs.lt {w : World} {bk bm : Nat} {n : Int} {up fr : List Step} {L : List Slot} (h : BookIs w bk bm n up fr L) : bk < w.heap.size := World.block_lt_of_cell? w _ h.c0
theorem BookIs.ne {w : World} {bk bm : Nat} {n : Int} {up fr : List Step} {L : List Slot} (h : BookIs w bk bm n up fr L) : bk ≠ bm := h.map.ne h.c0

theorem BookIs.below {w w' : World} {bk bm : Nat} {n : Int} {up fr : List Step} {L : List Slot} (h : BookIs w bk bm n up fr L) (hB : Below w.heap.size w w') : BookIs w' bk bm n up fr L := by
  have hc : ∀ o, w'.cell? ⟨bk, o, none⟩ = w.cell? ⟨bk, o, none⟩ := fun o => hB.cell (p := ⟨bk, o, none⟩) h.lt
  obtain ⟨vu, u1, u2, u3⟩ := h.c1
  obtain ⟨vf, f1, f2, f3⟩ := h.c2
  exact ⟨(hc 0).trans h.c0, ⟨vu, (hc 1).trans u1, u2.below hB, u3⟩, ⟨vf, (hc 2).trans f1, f2.below hB, f3⟩, (hc 3).trans h.c3, fun o => (hB.frozen (p := ⟨bk, o, none⟩) h.lt).trans (h.fz o), h.map.below hB h.map.lt⟩
theorem BookIs.drew {w : World} {bk bm : Nat} {n : Int} {up fr : List Step} {L : List Slot} (h : BookIs w bk bm n up fr L) : BookIs w.drew bk bm n up fr L := h.below ((Below.refl _ _).drew)
theorem BookIs.alloc {w : World} {bk bm : Nat} {n : Int} {up fr : List Step} {L : List Slot} (h : BookIs w bk bm n up fr L) (o : Obj) : BookIs (w.alloc o) bk bm n up fr L := h.below ((Below.refl _ _).alloc (Nat.le_refl _) o)

theorem cell_set_same {w : World} {b o : Nat} {u v : Value} (h : w.cell? ⟨b, o, none⟩ = some u) : (w.setCell ⟨b, o, none⟩ v).cell? ⟨b, o, none⟩ = some v := by
  unfold World.cell? at h ⊢
  simp only [World.setCell, Array.getElem?_modify] at h ⊢
  simp at h ⊢
  split at h
  · rename_i c e f hb
    rw [hb]
    simp
    have := (Array.getElem?_eq_some_iff.1 h).1
    simp [this]
  · cases h
theorem cell_set_other {w : World} {b o b' o' : Nat} {v : Value} (h : b' ≠ b ∨ o' ≠ o) : (w.setCell ⟨b, o, none⟩ v).cell? ⟨b', o', none⟩ = w.cell? ⟨b', o', none⟩ := by
  unfold World.cell?
  simp only [World.setCell, Array.getElem?_modify]
  by_cases hb : b = b'
  · subst hb
    simp
    cases hw : w.heap[b]? with
    | none => simp
    | some x =>
      cases x <;> simp
      rename_i c e f
      have : o ≠ o' := by rcases h with h | h <;> omega
      simp [this]
  · simp [hb]
theorem frozen_set {w : World} {b o : Nat} {v : Value} (a : Addr) : (w.setCell ⟨b, o, none⟩ v).frozen? a = w.frozen? a := by
  unfold World.frozen?
  simp only [World.setCell, Array.getElem?_modify]
  by_cases hb : b = a.block
  · subst hb
    simp
    cases hw : w.heap[a.block]? with
    | none => simp
    | some x => cases x <;> simp
  · simp [hb]

/-- 'b.free = v'. -/
theorem BookIs.setFree {w : World} {bk bm : Nat} {n : Int} {up fr fr' : List Step} {L : List Slot} (h : BookIs w bk bm n up fr L) {v : Value} (hv : IsSteps w v fr') (ha : Apart bk v) : BookIs (w.setCell ⟨bk, 2, none⟩ v) bk bm n up fr' L := by
  have hK : Kept bk bm w (w.setCell ⟨bk, 2, none⟩ v) := (Kept.refl bk bm w).set 2 v
  obtain ⟨vu, u1, u2, u3⟩ := h.c1
  obtain ⟨vf, f1, f2, f3⟩ := h.c2
  exact ⟨(cell_set_other (.inr (by decide))).trans h.c0, ⟨vu, (cell_set_other (.inr (by decide))).trans u1, IsRow.kept (by decide) u2 hK u3 h.map, u3⟩, ⟨v, cell_set_same f1, IsRow.kept (by decide) hv hK ha h.map, ha⟩,
    (cell_set_other (.inr (by decide))).trans h.c3, fun o => (frozen_set _).trans (h.fz o), h.map.setCell _ _⟩
/-- 'b.up = v'. -/
theorem BookIs.setUp {w : World} {bk bm : Nat} {n : Int} {up up' fr : List Step} {L : List Slot} (h : BookIs w bk bm n up fr L) {v : Value} (hv : IsSteps w v up') (ha : Apart bk v) : BookIs (w.setCell ⟨bk, 1, none⟩ v) bk bm n up' fr L := by
  have hK : Kept bk bm w (w.setCell ⟨bk, 1, none⟩ v) := (Kept.refl bk bm w).set 1 v
  obtain ⟨vu, u1, u2, u3⟩ := h.c1
  obtain ⟨vf, f1, f2, f3⟩ := h.c2
  exact ⟨(cell_set_other (.inr (by decide))).trans h.c0, ⟨v, cell_set_same u1, IsRow.kept (by decide) hv hK ha h.map, ha⟩, ⟨vf, (cell_set_other (.inr (by decide))).trans f1, IsRow.kept (by decide) f2 hK f3 h.map, f3⟩,
    (cell_set_other (.inr (by decide))).trans h.c3, fun o => (frozen_set _).trans (h.fz o), h.map.setCell _ _⟩
/-- The map was written. -/
theorem BookIs.turned {w w' : World} {bk bm : Nat} {n : Int} {up fr : List Step} {L L' : List Slot} (h : BookIs w bk bm n up fr L) (ht : w.mapTurned w' bm) (hm : MapIs w' bm L') : BookIs w' bk bm n up fr L' := by
  have hK : Kept bk bm w w' := (Kept.refl bk bm w).turned ht
  have hc : ∀ o, w'.cell? ⟨bk, o, none⟩ = w.cell? ⟨bk, o, none⟩ := fun o => World.cell?_of_block (w := w) (ht.grown.block bk h.lt (fun e => h.ne (by cases e; rfl)))
  obtain ⟨vu, u1, u2, u3⟩ := h.c1
  obtain ⟨vf, f1, f2, f3⟩ := h.c2
  exact ⟨(hc 0).trans h.c0, ⟨vu, (hc 1).trans u1, IsRow.kept (by decide) u2 hK u3 h.map, u3⟩, ⟨vf, (hc 2).trans f1, IsRow.kept (by decide) f2 hK f3 h.map, f3⟩, (hc 3).trans h.c3, fun o => (ht.frozen _).trans (h.fz o), hm⟩

/-! ### which blocks the book's rows keep clear of -/
def AwayB (w : World) (bk X : Nat) : Prop := ∀ x, (w.cell? ⟨bk, 1, none⟩ = some x ∨ w.cell? ⟨bk, 2, none⟩ = some x) → Apart X x
theorem AwayB.below {w w' : World} {bk X : Nat} (hA : AwayB w bk X) (hB : Below w.heap.size w w') (hlt : bk < w.heap.size) : AwayB w' bk X := by
  intro x hx
  rw [hB.cell (p := ⟨bk, 1, none⟩) hlt, hB.cell (p := ⟨bk, 2, none⟩) hlt] at hx
  exact hA x hx
theorem Apart.of_lt {w : World} {v : Value} {l : List Step} {X : Nat} (h : IsSteps w v l) (hX : w.heap.size ≤ X) : Apart X v := by
  intro a n' cap' hv hn he
  have hl : n' = l.length := by
    obtain ⟨_, ao, cap, h0, _⟩ := h
    rw [h0] at hv
    cases hv
    rfl
  obtain ⟨b, off, cap, h0, _, _, hlt, _⟩ := h.cells (by omega)
  rw [h0] at hv
  cases hv
  have he2 : b = X := he
  omega
theorem BookIs.away {w : World} {bk bm X : Nat} {n : Int} {up fr : List Step} {L : List Slot} (h : BookIs w bk bm n up fr L) (hX : w.heap.size ≤ X) : AwayB w bk X := by
  obtain ⟨vu, u1, u2, _⟩ := h.c1
  obtain ⟨vf, f1, f2, _⟩ := h.c2
  intro x hx
  rw [u1, f1] at hx
  rcases hx with hx | hx
  · cases hx; exact Apart.of_lt u2 hX
  · cases hx; exact Apart.of_lt f2 hX
theorem IsRow.setOut {w : World} {k X o : Nat} {u v : Value} {n : Nat} {xs : List Value} (h : IsRow w k v n xs) (hA : Apart X v) : IsRow (w.setCell ⟨X, o, none⟩ u) k v n xs := by
  obtain ⟨hl, ao, cap, rfl, h1, h2, h3⟩ := h
  refine ⟨hl, ao, cap, rfl, h1, h2, fun hn => ?_⟩
  obtain ⟨b, off, rfl, hr⟩ := h3 hn
  have hne : b ≠ X := hA _ _ _ rfl hn
  exact ⟨b, off, rfl, hr.same fun _ => cell_set_other (.inl hne)⟩
theorem BookIs.setOut {w : World} {bk bm X : Nat} {n : Int} {up fr : List Step} {L : List Slot} (h : BookIs w bk bm n up fr L) (hne : X ≠ bk) (hA : AwayB w bk X) (o : Nat) (u : Value) : BookIs (w.setCell ⟨X, o, none⟩ u) bk bm n up fr L := by
  obtain ⟨vu, u1, u2, u3⟩ := h.c1
  obtain ⟨vf, f1, f2, f3⟩ := h.c2
  have hc : ∀ o', (w.setCell ⟨X, o, none⟩ u).cell? ⟨bk, o', none⟩ = w.cell? ⟨bk, o', none⟩ := fun o' => cell_set_other (.inl (Ne.symm hne))
  exact ⟨(hc 0).trans h.c0, ⟨vu, (hc 1).trans u1, IsRow.setOut u2 (hA vu (.inl u1)), u3⟩, ⟨vf, (hc 2).trans f1, IsRow.setOut f2 (hA vf (.inr f1)), f3⟩, (hc 3).trans h.c3, fun o' => (frozen_set _).trans (h.fz o'), h.map.setCell _ _⟩
/-- 'b.free = v', v's row new, and a write to the map: what was away is away. -/
theorem away_lay {w w1 w2 wv : World} {bk bm X B : Nat} {n : Int} {up fr rr : List Step} {L : List Slot} {v : Value} (h : BookIs w bk bm n up fr L) (hB : Below w.heap.size w w1) (hv : OwnSteps wv B v rr) (hs : w.heap.size ≤ B)
    (ht : (w1.setCell ⟨bk, 2, none⟩ v).mapTurned w2 bm) (hX : X < w.heap.size) (hA : AwayB w bk X) : AwayB w2 bk X := by
  obtain ⟨vu, u1, u2, u3⟩ := h.c1
  obtain ⟨vf, f1, f2, f3⟩ := h.c2
  have hlt := h.lt
  have k1 : (w1.setCell ⟨bk, 2, none⟩ v).cell? ⟨bk, 1, none⟩ = some vu := (cell_set_other (.inr (by decide))).trans ((hB.cell (p := ⟨bk, 1, none⟩) hlt).trans u1)
  have k2 : (w1.setCell ⟨bk, 2, none⟩ v).cell? ⟨bk, 2, none⟩ = some v := cell_set_same ((hB.cell (p := ⟨bk, 2, none⟩) hlt).trans f1)
  have hne : bk ≠ bm := h.ne
  have hbl : bk < (w1.setCell ⟨bk, 2, none⟩ v).heap.size := by
    have := hB.size
    simp [World.setCell]
    omega
  have hc : ∀ o, w2.cell? ⟨bk, o, none⟩ = (w1.setCell ⟨bk, 2, none⟩ v).cell? ⟨bk, o, none⟩ := fun o => World.cell?_of_block (w := w1.setCell ⟨bk, 2, none⟩ v) (ht.grown.block bk hbl (fun e => hne (by cases e; rfl)))
  intro x hx
  rw [hc, hc, k1, k2] at hx
  rcases hx with hx | hx
  · cases hx; exact hA _ (.inl u1)
  · cases hx; exact Apart.own hv (Nat.lt_of_lt_of_le hX hs)

/-! ### laws at the operations -/
section
variable (w : World) {ops : Array Oper} {rest : List Oper} {o : Oper} {a : Act} {Q : Exit → Act → World → Prop}

theorem wp_look_yes (hg : o.guard = none) (m x : Operand) (c : Bool) (hop : o.op = Op.lookup 72 m x c) (bm : Nat) (L : List Slot) (s : Slot) (hm : a.eval m = .map (some bm)) (hx : a.eval x = .int .i64 s.id) (h : MapIs w bm L) (hs : s ∈ L)
    (hK : wpList Try.prog ops Q rest (a.put o.dst (if c then .tuple #[slotV s, .bool true] else slotV s)) w) : wpList Try.prog ops Q (o :: rest) a w := by
  refine wpList_plain hg fun K' hK' => ?_
  have hrun := h.look_yes hs c
  generalize (if c then .tuple #[slotV s, .bool true] else slotV s) = v at hrun hK
  unfold Oper.wp
  simp [execOp, hop, hm, hx, hrun, Result.andThen]
  exact hK' _ _ hK
theorem wp_look_no (hg : o.guard = none) (m x : Operand) (c : Bool) (hop : o.op = Op.lookup 72 m x c) (bm : Nat) (L : List Slot) (id : Int) (hm : a.eval m = .map (some bm)) (hx : a.eval x = .int .i64 id) (h : MapIs w bm L) (hs : ∀ s ∈ L, s.id ≠ id)
    (hK : wpList Try.prog ops Q rest (a.put o.dst (if c then .tuple #[slotV ⟨0, 0, 0, 0⟩, .bool false] else slotV ⟨0, 0, 0, 0⟩)) w) : wpList Try.prog ops Q (o :: rest) a w := by
  refine wpList_plain hg fun K' hK' => ?_
  have hrun := h.look_no hs c
  generalize (if c then .tuple #[slotV ⟨0, 0, 0, 0⟩, .bool false] else slotV ⟨0, 0, 0, 0⟩) = v at hrun hK
  unfold Oper.wp
  simp [execOp, hop, hm, hx, hrun, Result.andThen]
  exact hK' _ _ hK
theorem wp_put (hg : o.guard = none) (m x v : Operand) (hop : o.op = Op.mapUpdate 72 m x v) (bm : Nat) (L : List Slot) (s : Slot) (hm : a.eval m = .map (some bm)) (hx : a.eval x = .int .i64 s.id) (hv : a.eval v = slotV s) (h : MapIs w bm L) (hs : ∀ x ∈ L, x.id ≠ s.id)
    (hK : ∀ w', MapIs w' bm (L ++ [s]) → w.mapTurned w' bm → wpList Try.prog ops Q rest (a.put o.dst undef) w') : wpList Try.prog ops Q (o :: rest) a w := by
  refine wpList_plain hg fun K' hK' => ?_
  obtain ⟨w', hrun, r1, r2⟩ := h.put hs
  unfold Oper.wp
  simp only [execOp, hop, hm, hx, hv]
  simp [hrun, Result.andThen]
  exact hK' _ _ (hK w' r1 r2)
theorem wp_del (hg : o.guard = none) (m x : Operand) (hop : o.op = Op.call { callee := Callee.builtin Builtin.delete, args := #[m, x], argTypes := #[72, 3] }) (bm : Nat) (L : List Slot) (id : Int) (hm : a.eval m = .map (some bm)) (hx : a.eval x = .int .i64 id) (h : MapIs w bm L)
    (hK : ∀ w', MapIs w' bm (L.filter fun x => decide (x.id ≠ id)) → w.mapTurned w' bm → wpList Try.prog ops Q rest (a.put o.dst (.tuple #[])) w') : wpList Try.prog ops Q (o :: rest) a w := by
  refine wpList_plain hg fun K' hK' => ?_
  obtain ⟨w', hrun, r1, r2⟩ := h.del id o.type
  unfold Oper.wp
  simp [execOp, hop, resolve, invoke, builtin, hm, hx, hrun, Result.andThen]
  exact hK' _ _ (hK w' r1 r2)
theorem wp_len (hg : o.guard = none) (m : Operand) (hop : o.op = Op.call { callee := Callee.builtin Builtin.len, args := #[m], argTypes := #[72] }) (bm : Nat) (L : List Slot) (hm : a.eval m = .map (some bm)) (h : MapIs w bm L)
    (hK : wpList Try.prog ops Q rest (a.put o.dst (.int .i64 L.length)) w) : wpList Try.prog ops Q (o :: rest) a w := by
  refine wpList_plain hg fun K' hK' => ?_
  unfold Oper.wp
  simp [execOp, hop, resolve, invoke, builtin, hm, h.len o.type, Result.andThen]
  exact hK' _ _ hK
theorem wp_range (hg : o.guard = none) (m : Operand) (hop : o.op = Op.range 72 m) (bm : Nat) (L : List Slot) (hm : a.eval m = .map (some bm)) (h : MapIs w bm L)
    (hK : ∀ w', RangeIs w' bm w.heap.size L L → Below w.heap.size w w' → w'.heap.size = w.heap.size + 1 → wpList Try.prog ops Q rest (a.put o.dst (.pointer (some ⟨w.heap.size, 0, none⟩))) w') : wpList Try.prog ops Q (o :: rest) a w := by
  refine wpList_plain hg fun K' hK' => ?_
  obtain ⟨w', hrun, r1, r2, r3⟩ := h.range
  unfold Oper.wp
  simp [execOp, hop, hm, hrun, Result.andThen]
  exact hK' _ _ (hK w' r1 r2 r3)
theorem wp_next (hg : o.guard = none) (it : Operand) (hop : o.op = Op.next it false) (bm r : Nat) (L left : List Slot) (hit : a.eval it = .pointer (some ⟨r, 0, none⟩)) (h : RangeIs w bm r L left)
    (hDone : left = [] → wpList Try.prog ops Q rest (a.put o.dst (.tuple #[.bool false])) w)
    (hMore : ∀ (s : Slot) (x y : List Slot) (w' : World), left = x ++ s :: y → RangeIs w' bm r L (x ++ y) → w.grownBy w' (some r) → w'.heap.size = w.heap.size → (Instr.entry (.pointer (some ⟨r, 0, none⟩))).run Try.prog w' = .ok (.tuple #[.int .i64 s.id, slotV s]) w' →
      wpList Try.prog ops Q rest (a.put o.dst (.tuple #[.bool true, .int .i64 s.id, slotV s])) w') : wpList Try.prog ops Q (o :: rest) a w := by
  refine wpList_plain hg fun K' hK' => ?_
  unfold Oper.wp
  rcases h.next o.type with ⟨h0, hrun⟩ | ⟨s, x, y, w', hl, hrun, hrg, hgr, hsz, hen⟩
  · simp [execOp, hop, hit, hrun, Result.andThen]
    exact hK' _ _ (hDone h0)
  · simp [execOp, hop, hit, hrun, Result.andThen]
    exact hK' _ _ (hMore s x y w' hl hrg hgr hsz hen)
end

end Go.Proofs.Ytjknmnmilladlaa

/-
  Walks: the book's right, lay, drop.
-/
namespace Go.Proofs.Ytjknmnmilladlaa
open Go.RowKit

def rightOf (n : Int) (s : Slot) : Bool := decide (1 ≤ s.id) && isT s.frm && isT s.to && decide (s.frm < s.to) && decide (1 ≤ s.nodes) && decide (s.nodes ≤ n)

set_option maxHeartbeats 4000000 in
set_option maxRecDepth 100000 in
theorem rightAny {w : World} {bk bm : Nat} {n : Int} {up fr : List Step} {L : List Slot} (h : BookIs w bk bm n up fr L) (s : Slot) :
    Calls Try.prog 33 #[.pointer (some ⟨bk, 0, none⟩), slotV s] w fun e w' => e = .returned (.bool (rightOf n s)) ∧ Below w.heap.size w w' := by
  have c0 := h.c0
  have hlt := h.lt
  clear h
  obtain ⟨id, frm, to, k⟩ := s
  obtain ⟨r, hr⟩ : ∃ r, r = rightOf n ⟨id, frm, to, k⟩ := ⟨_, rfl⟩
  rw [← hr]
  unfold rightOf at hr
  simp only at hr
  unfold slotV
  simp only
  have hcases : (decide (1 ≤ id) = false ∧ r = false) ∨ (decide (1 ≤ id) = true ∧ isT frm = false ∧ r = false) ∨ (decide (1 ≤ id) = true ∧ isT frm = true ∧ isT to = false ∧ r = false) ∨ (decide (1 ≤ id) = true ∧ isT frm = true ∧ isT to = true ∧ decide (frm < to) = false ∧ r = false) ∨
      (decide (1 ≤ id) = true ∧ isT frm = true ∧ isT to = true ∧ decide (frm < to) = true ∧ decide (1 ≤ k) = false ∧ r = false) ∨ (decide (1 ≤ id) = true ∧ isT frm = true ∧ isT to = true ∧ decide (frm < to) = true ∧ decide (1 ≤ k) = true ∧ decide (k ≤ n) = r) := by
    cases h1 : decide (1 ≤ id)
    · exact .inl ⟨rfl, by rw [hr, h1]; rfl⟩
    cases h2 : isT frm
    · exact .inr (.inl ⟨rfl, rfl, by rw [hr, h1, h2]; rfl⟩)
    cases h3 : isT to
    · exact .inr (.inr (.inl ⟨rfl, rfl, rfl, by rw [hr, h1, h2, h3]; rfl⟩))
    cases h4 : decide (frm < to)
    · exact .inr (.inr (.inr (.inl ⟨rfl, rfl, rfl, rfl, by rw [hr, h1, h2, h3, h4]; rfl⟩)))
    cases h5 : decide (1 ≤ k)
    · exact .inr (.inr (.inr (.inr (.inl ⟨rfl, rfl, rfl, rfl, rfl, by rw [hr, h1, h2, h3, h4, h5]; rfl⟩))))
    · exact .inr (.inr (.inr (.inr (.inr ⟨rfl, rfl, rfl, rfl, rfl, by rw [hr, h1, h2, h3, h4, h5]; rfl⟩))))
  clear hr
  rcases hcases with ⟨h1, rfl⟩ | ⟨h1, h2, rfl⟩ | ⟨h1, h2, h3, rfl⟩ | ⟨h1, h2, h3, h4, rfl⟩ | ⟨h1, h2, h3, h4, h5, rfl⟩ | ⟨h1, h2, h3, h4, h5, h6⟩
  · go_enter Try.func33, Try.ntmps33
    go_wp2_with fail
    go_quiet (fail)
    go_wp2_with fail
    go_ret
    exact ⟨rfl, below_drewN ((Below.refl _ _).alloc (Nat.le_refl _) _) _⟩
  · have Kh2 := Lib.hid h2
    clear h2
    go_enter Try.func33, Try.ntmps33
    go_wp2_with fail
    go_quiet ((go_at_call 40; exact Calls.quiet_of_same (clockIsF _ _ Kh2.out)))
    go_wp2_with fail
    go_ret
    exact ⟨rfl, below_drewN ((Below.refl _ _).alloc (Nat.le_refl _) _) _⟩
  · have Kh2 := Lib.hid h2
    clear h2
    have Kh3 := Lib.hid h3
    clear h3
    go_enter Try.func33, Try.ntmps33
    go_wp2_with fail
    go_quiet ((go_at_call 40; first | exact Calls.quiet_of_same (clockIsT _ _ Kh2.out) | exact Calls.quiet_of_same (clockIsF _ _ Kh3.out)))
    go_wp2_with fail
    go_ret
    exact ⟨rfl, below_drewN ((Below.refl _ _).alloc (Nat.le_refl _) _) _⟩
  · have Kh2 := Lib.hid h2
    clear h2
    have Kh3 := Lib.hid h3
    clear h3
    go_enter Try.func33, Try.ntmps33
    go_wp2_with fail
    go_quiet ((go_at_call 40; first | exact Calls.quiet_of_same (clockIsT _ _ Kh2.out) | exact Calls.quiet_of_same (clockIsT _ _ Kh3.out)))
    go_wp2_with fail
    go_ret
    exact ⟨rfl, below_drewN ((Below.refl _ _).alloc (Nat.le_refl _) _) _⟩
  · have Kh2 := Lib.hid h2
    clear h2
    have Kh3 := Lib.hid h3
    clear h3
    go_enter Try.func33, Try.ntmps33
    go_wp2_with fail
    go_quiet ((go_at_call 40; first | exact Calls.quiet_of_same (clockIsT _ _ Kh2.out) | exact Calls.quiet_of_same (clockIsT _ _ Kh3.out)))
    go_wp2_with fail
    go_ret
    exact ⟨rfl, below_drewN ((Below.refl _ _).alloc (Nat.le_refl _) _) _⟩
  · have Kh2 := Lib.hid h2
    clear h2
    have Kh3 := Lib.hid h3
    clear h3
    go_enter Try.func33, Try.ntmps33
    go_wp2_with fail
    go_quiet ((go_at_call 40; first | exact Calls.quiet_of_same (clockIsT _ _ Kh2.out) | exact Calls.quiet_of_same (clockIsT _ _ Kh3.out)))
    go_wp2_with fail
    go_ret
    exact ⟨rfl, below_drewN ((Below.refl _ _).alloc (Nat.le_refl _) _) _⟩

theorem addEq {w : World} {v : Value} {l : List Step} (h : IsSteps w v l) {frm to k ee : Int} {rr : List Step} (he : addErr l frm to k = ee) (hr : addRes l frm to k = rr) :
    Calls Try.prog 44 #[v, .int .i64 frm, .int .i64 to, .int .i64 k] w fun e w' => (∃ u, e = .returned (.tuple #[u, .int .i64 ee]) ∧ OwnSteps w' w.heap.size u rr) ∧ Below w.heap.size w w' := by
  subst he
  subst hr
  exact addAny h frm to k

theorem cell_new (w : World) (cs : Array Value) (t : TypeId) (o : Nat) {u : Value} (h : cs[o]? = some u) : (w.alloc (.cells cs t)).cell? ⟨w.heap.size, o, none⟩ = some u := by
  unfold World.cell?
  rw [heap_alloc_new]
  exact h
theorem cell_old {w : World} (o : Obj) {b x : Nat} {u : Value} (h : w.cell? ⟨b, x, none⟩ = some u) : (w.alloc o).cell? ⟨b, x, none⟩ = some u := by
  have hlt := World.block_lt_of_cell? w _ h
  unfold World.cell? at h ⊢
  rw [heap_alloc_old w o hlt]
  exact h
/-- Behind a call in a drawn region: the cells of the region's S. -/
theorem cell_thru {w w1 : World} (hb : Below w.heap.size w w1) {b x : Nat} {u : Value} (h : w.cell? ⟨b, x, none⟩ = some u) : w1.cell? ⟨b, x, none⟩ = some u :=
  (hb.cell (p := ⟨b, x, none⟩) (World.block_lt_of_cell? w _ h)).trans h

theorem neg_wrap {k : Int} (hk : -10000 ≤ k ∧ k ≤ 10000) : IntKind.i64.wrap (-k) = -k := by
  unfold IntKind.wrap
  simp [IntKind.signed, IntKind.bits]
  omega

set_option maxHeartbeats 4000000 in
set_option maxRecDepth 100000 in
theorem layNo {w : World} {bk bm : Nat} {n : Int} {up fr : List Step} {L : List Slot} (h : BookIs w bk bm n up fr L) (s : Slot) (hk : -10000 ≤ s.nodes ∧ s.nodes ≤ 10000) (he : addErr fr s.frm s.to (-s.nodes) ≠ 0) :
    Calls Try.prog 34 #[.pointer (some ⟨bk, 0, none⟩), slotV s] w fun e w' => e = .returned (.int .i64 (addErr fr s.frm s.to (-s.nodes))) ∧ Below w.heap.size w w' := by
  obtain ⟨id, frm, to, k⟩ := s
  unfold slotV
  simp only at he hk ⊢
  obtain ⟨vf, c2, f2, f3⟩ := h.c2
  have hlt := h.lt
  clear h f3
  have hneg := neg_wrap hk
  generalize hee : addErr fr frm to (-k) = ee at he ⊢
  have hd : (ee == 0) = false := by simpa using he
  have HF := Lib.hid f2; clear f2
  have HE := Lib.hid hee; clear hee
  go_enter Try.func34, Try.ntmps34
  go_wp2_with fail
  go_region_held3 (fun w' => w'.cell? ⟨bk, 2, none⟩ = some vf ∧ w'.cell? ⟨w.heap.size, 1, none⟩ = some (.int .i64 frm) ∧ w'.cell? ⟨w.heap.size, 2, none⟩ = some (.int .i64 to) ∧ w'.cell? ⟨w.heap.size, 3, none⟩ = some (.int .i64 k)) (first | go_keep | exact ⟨k1, k2, k3, k4⟩) ((go_at_call 44; refine (addEq ((HF.out).below (((Below.refl _ _).alloc (Nat.le_refl _) _).drew)) HE.out rfl).mono ?_; rintro e w1 ⟨⟨v, rfl, hv⟩, hb1⟩; have k1 := cell_thru hb1 (cell_old _ c2); have k2 := cell_thru hb1 (cell_new w _ 29 1 rfl); have k3 := cell_thru hb1 (cell_new w _ 29 2 rfl); have k4 := cell_thru hb1 (cell_new w _ 29 3 rfl); have HV := Lib.hid hv; clear hv; have HB := Lib.hid hb1; clear hb1))
  go_wp2_with fail
  go_ret
  exact ⟨rfl, (((Below.refl _ _).alloc (Nat.le_refl _) _).drew).trans (HB.out.mono (by simp))⟩

theorem cell_turned {w w1 : World} {bm : Nat} (ht : w.mapTurned w1 bm) {b x : Nat} {u : Value} (h : w.cell? ⟨b, x, none⟩ = some u) : w1.cell? ⟨b, x, none⟩ = some u := by
  have hlt := World.block_lt_of_cell? w _ h
  refine (World.cell?_of_block (w := w) (ht.grown.block b hlt (fun e => ?_))).trans h
  obtain ⟨es, clock, es', clock', hb, _⟩ := ht
  cases e
  simp [World.cell?, hb] at h
theorem cell_set {w : World} {b o : Nat} {v : Value} {b' o' : Nat} {u : Value} (hn : b' ≠ b ∨ o' ≠ o) (h : w.cell? ⟨b', o', none⟩ = some u) : (w.setCell ⟨b, o, none⟩ v).cell? ⟨b', o', none⟩ = some u := (cell_set_other hn).trans h

def LayPost (w : World) (bk bm : Nat) (n : Int) (up fr : List Step) (L : List Slot) (w' : World) : Prop := BookIs w' bk bm n up fr L ∧ Kept bk bm w w' ∧ ∀ X, X < w.heap.size → AwayB w bk X → AwayB w' bk X

set_option maxHeartbeats 4000000 in
set_option maxRecDepth 100000 in
theorem layYes {w : World} {bk bm : Nat} {n : Int} {up fr : List Step} {L : List Slot} (h : BookIs w bk bm n up fr L) (s : Slot) (hk : -10000 ≤ s.nodes ∧ s.nodes ≤ 10000) (he : addErr fr s.frm s.to (-s.nodes) = 0) (hs : ∀ x ∈ L, x.id ≠ s.id) :
    Calls Try.prog 34 #[.pointer (some ⟨bk, 0, none⟩), slotV s] w fun e w' => e = .returned (.int .i64 0) ∧ LayPost w bk bm n up (addRes fr s.frm s.to (-s.nodes)) (L ++ [s]) w' := by
  obtain ⟨id, frm, to, k⟩ := s
  unfold slotV
  simp only at he hk hs ⊢
  obtain ⟨vf, c2, f2, f3⟩ := h.c2
  have c3 := h.c3
  have hlt := h.lt
  have hne : w.heap.size ≠ bk := by omega
  have hneg := neg_wrap hk
  generalize hrr : addRes fr frm to (-k) = rr
  have HF := Lib.hid f2; clear f2
  have HE := Lib.hid he; clear he
  have HR := Lib.hid hrr; clear hrr
  have HH := Lib.hid h; clear h f3
  have HS := Lib.hid hs; clear hs
  go_enter Try.func34, Try.ntmps34
  go_wp2_with fail
  go_region_held3 (fun w' => w'.cell? ⟨bk, 2, none⟩ = some vf ∧ w'.cell? ⟨w.heap.size, 1, none⟩ = some (.int .i64 frm) ∧ w'.cell? ⟨w.heap.size, 2, none⟩ = some (.int .i64 to) ∧ w'.cell? ⟨w.heap.size, 3, none⟩ = some (.int .i64 k)) (first | go_keep | exact ⟨k1, k2, k3, k4⟩) ((go_at_call 44; refine (addEq ((HF.out).below (((Below.refl _ _).alloc (Nat.le_refl _) _).drew)) HE.out HR.out).mono ?_; rintro e w1 ⟨⟨v, rfl, hv⟩, hb1⟩; obtain ⟨ao, cp, rfl, _, _⟩ := IsRow.shape hv.is; have k0 := cell_thru hb1 (cell_new w _ 29 0 rfl); have k1 := cell_thru hb1 (cell_old _ c2); have k2 := cell_thru hb1 (cell_new w _ 29 1 rfl); have k3 := cell_thru hb1 (cell_new w _ 29 2 rfl); have k4 := cell_thru hb1 (cell_new w _ 29 3 rfl); have k5 := cell_thru hb1 (cell_old _ c3); have HV := Lib.hid hv; clear hv; have HB := Lib.hid hb1; clear hb1))
  have B1 : Below w.heap.size w w1 := (((Below.refl _ _).alloc (Nat.le_refl _) _).drew).trans (HB.out.mono (by simp))
  have K1 := HH.out.below B1
  have g2 := K1.fz 2
  have A1 : Apart bk (.slice ao rr.length cp) := Apart.own HV.out (by simp; omega)
  have K2 := K1.setFree HV.out.is A1
  have HB1 := Lib.hid B1
  have HK2 := Lib.hid K2
  clear B1 K1 K2 A1
  have q0 : (w1.setCell ⟨bk, 2, none⟩ (.slice ao rr.length cp)).cell? ⟨w.heap.size, 0, none⟩ = some (.int .i64 id) := cell_set (.inl hne) k0
  have q1 : (w1.setCell ⟨bk, 2, none⟩ (.slice ao rr.length cp)).cell? ⟨w.heap.size, 1, none⟩ = some (.int .i64 frm) := cell_set (.inl hne) k2
  have q2 : (w1.setCell ⟨bk, 2, none⟩ (.slice ao rr.length cp)).cell? ⟨w.heap.size, 2, none⟩ = some (.int .i64 to) := cell_set (.inl hne) k3
  have q3 : (w1.setCell ⟨bk, 2, none⟩ (.slice ao rr.length cp)).cell? ⟨w.heap.size, 3, none⟩ = some (.int .i64 k) := cell_set (.inl hne) k4
  have q4 : (w1.setCell ⟨bk, 2, none⟩ (.slice ao rr.length cp)).cell? ⟨bk, 3, none⟩ = some (.map (some bm)) := cell_set (.inr (by decide)) k5
  go_wp2_with fail
  have hM := HK2.out.map
  have hM2 : MapIs (w1.setCell ⟨bk, 2, none⟩ (.slice ao rr.length cp)).drew bm L := hM.drew
  obtain ⟨w2, hrun, hm2, ht2⟩ := hM2.put (s := ⟨id, frm, to, k⟩) HS.out
  unfold slotV at hrun
  simp only at hrun
  have HM2 := Lib.hid hm2
  have r0 : w2.cell? ⟨w.heap.size, 0, none⟩ = some (.int .i64 id) := cell_turned ht2 q0
  have r1 : w2.cell? ⟨w.heap.size, 1, none⟩ = some (.int .i64 frm) := cell_turned ht2 q1
  have r2 : w2.cell? ⟨w.heap.size, 2, none⟩ = some (.int .i64 to) := cell_turned ht2 q2
  have r3 : w2.cell? ⟨w.heap.size, 3, none⟩ = some (.int .i64 k) := cell_turned ht2 q3
  have r4 : w2.cell? ⟨bk, 3, none⟩ = some (.map (some bm)) := cell_turned ht2 q4
  have HT2 := Lib.hid ht2
  clear hM hM2 hm2 ht2
  go_region_held3 (fun w' => w'.cell? ⟨bk, 3, none⟩ = some (.map (some bm)) ∧ w'.cell? ⟨w.heap.size, 0, none⟩ = some (.int .i64 id) ∧ w'.cell? ⟨w.heap.size, 1, none⟩ = some (.int .i64 frm) ∧ w'.cell? ⟨w.heap.size, 2, none⟩ = some (.int .i64 to) ∧ w'.cell? ⟨w.heap.size, 3, none⟩ = some (.int .i64 k)) (first | go_keep | exact ⟨q4, q0, q1, q2, q3⟩ | exact ⟨r4, r0, r1, r2, r3⟩) (fail)
  go_wp2_with fail
  go_ret
  refine ⟨rfl, HK2.out.drew.turned HT2.out HM2.out, (((Kept.of_below HB1.out).set 2 _).drew).turned HT2.out, fun X hX hA => ?_⟩
  exact away_lay (w1 := w1.drew) HH.out HB1.out.drew HV.out (by simp) HT2.out hX hA

end Go.Proofs.Ytjknmnmilladlaa

/-
  Walk: the book's drop.
-/
namespace Go.Proofs.Ytjknmnmilladlaa
open Go.RowKit

def without (L : List Slot) (id : Int) : List Slot := L.filter fun x => decide (x.id ≠ id)

set_option maxHeartbeats 4000000 in
set_option maxRecDepth 100000 in
theorem dropAny {w : World} {bk bm : Nat} {n : Int} {up fr : List Step} {L : List Slot} (h : BookIs w bk bm n up fr L) {s : Slot} (hs : s ∈ L) :
    Calls Try.prog 39 #[.pointer (some ⟨bk, 0, none⟩), .int .i64 s.id] w fun e w' => e = .returned (.tuple #[]) ∧ LayPost w bk bm n up (addRes fr s.frm s.to s.nodes) (without L s.id) w' := by
  obtain ⟨id, frm, to, k⟩ := s
  simp only
  generalize hL2 : without L id = L2
  have HL2 := Lib.hid hL2; clear hL2
  obtain ⟨vf, c2, f2, f3⟩ := h.c2
  have c3 := h.c3
  have hlt := h.lt
  have hne : w.heap.size ≠ bk := by omega
  generalize hrr : addRes fr frm to k = rr
  have HF := Lib.hid f2; clear f2
  have HR := Lib.hid hrr; clear hrr
  have HH := Lib.hid h; clear h f3
  have HS := Lib.hid hs; clear hs
  go_enter Try.func39, Try.ntmps39
  go_wp2_with (at_lookup; refine wp_look_yes _ rfl _ _ _ rfl bm L ⟨id, frm, to, k⟩ rfl rfl HH.out.map HS.out ?_; unfold slotV; simp only [Bool.false_eq_true, if_false])
  have d0 : (w.alloc (.cells #[.int .i64 id, .int .i64 frm, .int .i64 to, .int .i64 k] 29)).drew.cell? ⟨bk, 2, none⟩ = some vf := cell_old _ c2
  have d1 : (w.alloc (.cells #[.int .i64 id, .int .i64 frm, .int .i64 to, .int .i64 k] 29)).drew.cell? ⟨w.heap.size, 1, none⟩ = some (.int .i64 frm) := cell_new w _ 29 1 rfl
  have d2 : (w.alloc (.cells #[.int .i64 id, .int .i64 frm, .int .i64 to, .int .i64 k] 29)).drew.cell? ⟨w.heap.size, 2, none⟩ = some (.int .i64 to) := cell_new w _ 29 2 rfl
  have d3 : (w.alloc (.cells #[.int .i64 id, .int .i64 frm, .int .i64 to, .int .i64 k] 29)).drew.cell? ⟨w.heap.size, 3, none⟩ = some (.int .i64 k) := cell_new w _ 29 3 rfl
  have d4 : (w.alloc (.cells #[.int .i64 id, .int .i64 frm, .int .i64 to, .int .i64 k] 29)).drew.cell? ⟨bk, 3, none⟩ = some (.map (some bm)) := cell_old _ c3
  have BW : Below w.heap.size w (w.alloc (.cells #[.int .i64 id, .int .i64 frm, .int .i64 to, .int .i64 k] 29)).drew := ((Below.refl _ _).alloc (Nat.le_refl _) _).drew
  have HBW := Lib.hid BW
  clear BW
  go_region_with ((go_at_call 44; refine (addEq ((HF.out).below HBW.out) rfl HR.out).mono ?_; rintro e w1 ⟨⟨v, rfl, hv⟩, hb1⟩; obtain ⟨ao, cp, rfl, _, _⟩ := IsRow.shape hv.is; have k5 := cell_thru hb1 d4; have B1 : Below w.heap.size w w1 := HBW.out.trans (hb1.mono HBW.out.size); have k1 := cell_thru hb1 d0; have g2 := (HH.out.below B1).fz 2; have HV := Lib.hid hv; clear hv; have HB1 := Lib.hid B1; clear B1; have HB := Lib.hid hb1; clear hb1))
  all_goals (
    have K1 := HH.out.below HB1.out
    have A1 : Apart bk (.slice ao rr.length cp) := Apart.own HV.out (Nat.lt_of_lt_of_le hlt HBW.out.size)
    have K2 := K1.setFree HV.out.is A1
    have HK2 := Lib.hid K2
    clear K1 K2 A1
    go_wp2_with (at_delete; refine wp_del _ rfl _ _ rfl bm L id rfl rfl HK2.out.map ?_; intro w3 hm3 ht3; have HM3 := Lib.hid hm3; have HT3 := Lib.hid ht3; clear hm3 ht3)
    go_end0
    refine ⟨rfl, HK2.out.turned HT3.out (HL2.out ▸ HM3.out), (((Kept.of_below HB1.out).set 2 _)).turned HT3.out, fun X hX hA => ?_⟩
    exact away_lay HH.out HB1.out HV.out HBW.out.size HT3.out hX hA)

end Go.Proofs.Ytjknmnmilladlaa
