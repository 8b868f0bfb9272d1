/-
  Walk: the book's over.
-/
import Derived.Test.YtjknmnmilladlaaW18
import Derived.Test.YtjknmnmilladlaaP7
import Derived.Test.YtjknmnmilladlaaW17
namespace Go.Proofs.Ytjknmnmilladlaa
open Go.RowKit

theorem OwnInts.alloc {w : World} {B : Nat} {v : Value} {l : List Int} (h : OwnInts w B v l) (o : Obj) : OwnInts (w.alloc o) B v l := owns_below h ((Below.refl _ _).alloc (Nat.le_refl _) o)
theorem own_int1 {w : World} {B m : Nat} {v : Value} {l : List Int} {t : Int} (h : w.ownsRow B 3 1 v m (flatI l ++ [.int .i64 t])) : OwnInts w B v (l ++ [t]) := by
  have hm : m = l.length + 1 := by have := h.1; simp [flatI] at this; omega
  subst hm
  unfold OwnInts
  rw [flatI_append, List.length_append]
  exact h
theorem own_int2 {w : World} {B m : Nat} {v : Value} {l : List Int} {t u : Int} (h : w.ownsRow B 3 1 v m (flatI l ++ [.int .i64 t, .int .i64 u])) : OwnInts w B v (l ++ [t, u]) := by
  have hm : m = l.length + 2 := by have := h.1; simp [flatI] at this; omega
  subst hm
  unfold OwnInts
  rw [flatI_append, List.length_append]
  exact h

theorem own_step1 {w : World} {B m : Nat} {v : Value} {l : List Step} {t f : Int} (h : w.ownsRow B 38 2 v m (flatS l ++ [.int .i64 t, .int .i64 f])) : OwnSteps w B v (l ++ [⟨t, f⟩]) := by
  have hm : m = l.length + 1 := by have := h.1; simp [length_flatS] at this; omega
  subst hm
  unfold OwnSteps
  rw [flatS_append, List.length_append]
  exact h
theorem small_wrap {a : Int} (h1 : -4611686018427387904 ≤ a) (h2 : a ≤ 4611686018427387904) : IntKind.i64.wrap a = a := by
  unfold IntKind.wrap
  simp [IntKind.signed, IntKind.bits]
  omega
theorem own_ne {w : World} {B e k m : Nat} {v : Value} {xs : List Value} (h : w.ownsRow B e k v m xs) {bm R : Nat} {L left : List Slot} (hR : RangeIs w bm R L left) : v.ownBlock ≠ some R ∧ v.ownBlock ≠ some bm := by
  obtain ⟨es, clock, since, seen, c0, hb, hE, hr, _⟩ := hR
  rcases h.2 with ⟨rfl, _⟩ | ⟨g, cap, cur, rfl, hg, hh, _⟩
  · exact ⟨by simp [Value.ownBlock], by simp [Value.ownBlock]⟩
  · constructor
    · intro he
      simp [Value.ownBlock] at he
      subst he
      rw [hh] at hr
      cases hr
    · intro he
      simp [Value.ownBlock] at he
      subst he
      rw [hh] at hb
      cases hb

set_option maxHeartbeats 8000000 in
set_option maxRecDepth 100000 in
theorem overAny {w : World} {bk bm : Nat} {n : Int} {up fr : List Step} {L : List Slot} (h : BookIs w bk bm n up fr L) (hpos : 0 < up.length) (hup : up.length ≤ 20000) (hL : L.length ≤ 9000) (hk : ∀ s ∈ L, 1 ≤ s.nodes ∧ s.nodes ≤ 10000) (hat : ∀ t, 0 ≤ atOf up t ∧ atOf up t ≤ 10000) :
    Calls Try.prog 46 #[.pointer (some ⟨bk, 0, none⟩)] w fun e w' => (∃ (v : Value) (ts : List Int), e = .returned v ∧ (∀ t, t ∈ ts ↔ t ∈ stepT up ++ slotT L) ∧ OwnSteps w' w.heap.size v (ts.map fun t => (⟨t, loadOf L t - atOf up t⟩ : Step))) ∧ Below w.heap.size w w' := by
  obtain ⟨vu, u1, u2, u3⟩ := h.c1
  have hvat := u2
  obtain ⟨b, off, cap, rfl, hnc, hcap, hbw, hA, hF, _⟩ := u2.cells hpos
  have c3 := h.c3
  have hlt := h.lt
  obtain ⟨N, hN⟩ : ∃ N, N = up.length := ⟨_, rfl⟩
  rw [← hN] at hA hF hnc hpos u1 hvat hup
  have HH := Lib.hid h
  have HA := Lib.hid hA
  have HF := Lib.hid hF
  have HN := Lib.hid hN
  have HVU := Lib.hid hvat
  have HK := Lib.hid hk
  have HAT := Lib.hid hat
  clear h hA hF hN hvat hk hat u2 u3
  obtain ⟨i0, hi, hz0, hz1, hz2⟩ := info_parts Try.info3
  obtain ⟨j0, hj38, hy0, hy1, hy2⟩ := info_parts Try.info38
  go_enter Try.func46, Try.ntmps46
  go_wp2_with fail
  go_loopw [3, 19] (fun o i wr => ∃ k : Nat, k ≤ N ∧ i = .int .i64 k ∧ Below w.heap.size w wr ∧ OwnInts wr w.heap.size o ((stepT up).take k)) (fun _ i _ => N - (intOf i).toNat)
  case atStart => exact ⟨0, by omega, rfl, Below.refl _ _, World.ownsRow_nil _ _ _ _⟩
  case round =>
    obtain ⟨k, hk, rfl, hb, hown⟩ := hrel
    have HOWN := Lib.hid hown
    have HB := Lib.hid hb
    have hlt2 : w.heap.size ≤ wr.heap.size := hb.size
    by_cases hkn : k < N
    · have hAk : wr.cell? ⟨b, off + k * 2, none⟩ = some (.int .i64 (atv up k)) := (hb.cell (p := ⟨b, off + k * 2, none⟩) hbw).trans (HA.out k hkn)
      have hFk : wr.cell? ⟨b, off + k * 2 + 1, none⟩ = some (.int .i64 (frv up k)) := (hb.cell (p := ⟨b, off + k * 2 + 1, none⟩) hbw).trans (HF.out k hkn)
      have HTK := Lib.hid (stepT_take up k (by rw [← HN.out]; exact hkn))
      have hlk : ((stepT up).take k).length = k := by simp [stepT, ← HN.out]; omega
      have hkk : (k : Int) < N := by omega
      clear hb hown
      generalize atv up k = ak at *
      generalize frv up k = fk at *
      generalize hlst : (stepT up).take k = lst at *
      have HLST := Lib.hid hlst
      have HOW := HOWN.out
      unfold OwnInts at HOW
      have HOW := Lib.hid HOW
      clear hlst
      go_wp2_with (at_builtin; refine wpList_append_own _ rfl (.tmp 23) (.tmp 26) 42 rfl w.heap.size 3 i0 _ 1 8 Try.underlying42 hi hz0 hz1 hz2 rfl (by decide) _ _ _ rfl (by exact (HOW.out.alloc _).alloc _) ⟨wr.heap.size + 1, 0, none⟩ 1 1 [.int .i64 ak] rfl rfl (news_at _ _ (by simp) #[.int .i64 ak] 3) (by simp [Value.oneCell']) (by unfold maxLen; omega) (by omega) (by simp; omega) ?_)
      intro v' w3 hown3 hgrow hnil
      have HO3 := Lib.hid hown3
      have HG := Lib.hid hgrow
      clear hown3 hnil hgrow
      go_wp2_with fail
      go_roundw
      case rel =>
        have hB3 : Below w.heap.size w w3 := ((HB.out.alloc hlt2 _).alloc (by simp; omega) _).grown HG.out (by simp; omega) (fun g hg => ((World.ownsRow.lt HOW.out) g hg).1)
        exact ⟨k + 1, by omega, by go_num, hB3, by rw [HTK.out]; exact own_int1 HO3.out⟩
      case measure => simp [intOf]; omega
    · obtain rfl : k = N := by omega
      have hd2 : decide ((k : Int) < k) = false := by simp
      have hall : (stepT up).take k = stepT up := by rw [List.take_of_length_le]; simp [stepT, ← HN.out]
      rw [hall] at hown
      have HOWN := Lib.hid hown
      clear hown hall hb
      have hltb : bm < wr.heap.size := Nat.lt_of_lt_of_le HH.out.map.lt hlt2
      have HHr := Lib.hid (HH.out.below HB.out)
      have c3r := HHr.out.c3
      obtain ⟨R, hR⟩ : ∃ R, R = wr.heap.size := ⟨_, rfl⟩
      have hlR : w.heap.size ≤ R := by rw [hR]; exact hlt2
      have HR := Lib.hid hR
      clear hR
      go_wp2_with (at_range; refine wp_range _ rfl _ rfl bm L rfl HHr.out.map ?_; intro w0 hr0 hb0 hs0)
      go_frame
      rw [← HR.out] at hr0
      rw [← HR.out]
      have HB0 := Lib.hid (HB.out.trans (hb0.mono HB.out.size))
      have HO0 := Lib.hid (owns_below HOWN.out hb0 : OwnInts w0 w.heap.size _ _)
      have HR0 := Lib.hid hr0
      clear hb0 hs0 hr0
      have hlup : (stepT up).length = k := by simp [stepT, ← HN.out]
      have HLUP := Lib.hid hlup
      clear hlup
      go_loopw [3] (fun o wr => ∃ dn left, RangeIs wr bm R L left ∧ (dn ++ left).Perm L ∧ Below w.heap.size w wr ∧ OwnInts wr w.heap.size o (stepT up ++ slotT dn)) (fun _ wr => wr.rangeLeft bm R)
      case atStart => exact ⟨[], L, HR0.out, List.Perm.refl _, HB0.out, by rw [show slotT [] = [] from rfl, List.append_nil]; exact HO0.out⟩
      case round =>
        obtain ⟨dn, left, hRg, hP, hb, hown⟩ := hrel
        have HP := Lib.hid hP
        have HBb := Lib.hid hb
        have HOw := Lib.hid hown
        have hdl := hP.length_eq
        rw [List.length_append] at hdl
        have HDL := Lib.hid hdl
        clear hP hown hb hdl HO0 HB0 HR0
        go_wp2_with (at_next; refine wp_next _ rfl _ rfl bm R L left rfl hRg ?_ ?_)
        · intro hl
          subst hl
          have hPL : dn.Perm L := by simpa using HP.out
          have HPL := Lib.hid hPL
          have hl40 : (stepT up ++ slotT dn).length < 4611686018427387904 := by
            rw [List.length_append, length_slotT, HLUP.out]
            have := HDL.out
            simp at this
            omega
          have HS := Lib.hid (sortInts HOw.out HBb.out.size hl40)
          have hmem : ∀ t, t ∈ Lib.compact ((stepT up ++ slotT dn).mergeSort fun x y => decide (x ≤ y)) ↔ t ∈ stepT up ++ slotT L := by
            intro t
            rw [mem_compact, List.mem_mergeSort, List.mem_append, List.mem_append, mem_slotT_perm HPL.out]
          have hll : (Lib.compact ((stepT up ++ slotT dn).mergeSort fun x y => decide (x ≤ y))).length ≤ 40000 := by
            have h1 := Lib.compact_length_le ((stepT up ++ slotT dn).mergeSort fun x y => decide (x ≤ y))
            rw [List.length_mergeSort, List.length_append, length_slotT, HLUP.out] at h1
            have := HDL.out
            simp at this
            omega
          have hpts : 0 < (Lib.compact ((stepT up ++ slotT dn).mergeSort fun x y => decide (x ≤ y))).length := by
            have : atv up 0 ∈ Lib.compact ((stepT up ++ slotT dn).mergeSort fun x y => decide (x ≤ y)) := by
              rw [hmem, List.mem_append]
              left
              unfold stepT
              rw [List.mem_map]
              have h0 : 0 < up.length := by rw [← HN.out]; exact hpos
              exact ⟨up[0], List.getElem_mem h0, by rw [stepAt up 0 h0]⟩
            exact List.length_pos_of_mem this
          have HC0 := fun (w2 : World) (h2 : OwnInts w2 w.heap.size u3 ((stepT up ++ slotT dn).mergeSort fun x y => decide (x ≤ y))) (hs2 : w.heap.size ≤ w2.heap.size) => compactInts h2 hs2
          generalize hts : Lib.compact ((stepT up ++ slotT dn).mergeSort fun x y => decide (x ≤ y)) = ts at *
          have HC := Lib.hid HC0
          have HMEM := Lib.hid hmem
          clear hPL hl40 hmem HC0 hts hRg
          go_wp2_with fail
          refine (HS.out).mono ?_
          rintro e w2 ⟨rfl, ho2, hb2⟩
          have HO2 := Lib.hid ho2
          have HB2 := Lib.hid (HBb.out.trans hb2)
          clear ho2 hb2
          go_wp2_with fail
          refine (HC.out w2 HO2.out HB2.out.size).mono ?_
          rintro e w3 ⟨⟨vt, rfl, hi3⟩, hb3⟩
          obtain ⟨b2, off2, cap2, rfl, hnc2, hcap2, hbw2, hT, _⟩ := hi3.cells hpts
          have HB3 := Lib.hid (HB2.out.trans hb3)
          have HT := Lib.hid hT
          have hl3 : w.heap.size ≤ w3.heap.size := HB3.out.size
          obtain ⟨M, hM⟩ : ∃ M, M = ts.length := ⟨_, rfl⟩
          rw [← hM] at hnc2 hpts hll
          have HT2 : ∀ j, j < M → w3.cell? ⟨b2, off2 + j, none⟩ = some (.int .i64 (inv ts j)) := by rw [hM]; exact hT
          have HT := Lib.hid HT2
          have hML := Lib.hid hM
          rw [← hM]
          clear hi3 hb3 hT HT2 hM HS HC HO2 HB2
          go_wp2_with fail
          go_loopw [8, 50] (fun o i wr => ∃ j : Nat, j ≤ M ∧ i = .int .i64 j ∧ Below w3.heap.size w3 wr ∧ OwnSteps wr w3.heap.size o ((ts.map fun t => (⟨t, loadOf L t - atOf up t⟩ : Step)).take j)) (fun _ i _ => M - (intOf i).toNat)
          case atStart => exact ⟨0, by omega, rfl, Below.refl _ _, World.ownsRow_nil _ _ _ _⟩
          case round =>
            obtain ⟨j, hj, rfl, hb4, ho4⟩ := hrel
            have HO4 := Lib.hid ho4
            have HB4 := Lib.hid hb4
            by_cases hjM : j < M
            · have hl4 : w3.heap.size ≤ wr.heap.size := hb4.size
              have hcj : wr.cell? ⟨b2, off2 + j, none⟩ = some (.int .i64 (inv ts j)) := (hb4.cell (p := ⟨b2, off2 + j, none⟩) hbw2).trans (HT.out j hjM)
              have hjj : (j : Int) < M := by omega
              have hsn : ((ts.map fun t => (⟨t, loadOf L t - atOf up t⟩ : Step)).take (j + 1)) = ((ts.map fun t => (⟨t, loadOf L t - atOf up t⟩ : Step)).take j) ++ [⟨inv ts j, loadOf L (inv ts j) - atOf up (inv ts j)⟩] := by
                have hjt : j < ts.length := by rw [← hML.out]; exact hjM
                rw [List.take_succ_eq_append_getElem (by simpa using hjt)]
                simp [inv, hjt]
              have hlk : ((ts.map fun t => (⟨t, loadOf L t - atOf up t⟩ : Step)).take j).length = j := by simp [← hML.out]; omega
              generalize inv ts j = t at *
              have HSN := Lib.hid hsn
              generalize ((ts.map fun t => (⟨t, loadOf L t - atOf up t⟩ : Step)).take j) = o at *
              have HLK := Lib.hid hlk
              have hav := HAT.out t
              have HHW := Lib.hid (HH.out.below (HB3.out.trans (hb4.mono hl3)))
              have HVW := Lib.hid (HVU.out.below (HB3.out.trans (hb4.mono hl3)))
              have c1w : wr.cell? ⟨bk, 1, none⟩ = some (.slice (some ⟨b, off, none⟩) k cap) := ((HB3.out.trans (hb4.mono hl3)).cell (p := ⟨bk, 1, none⟩) hlt).trans u1
              have HAA := Lib.hid (atAny HVW.out t)
              generalize hat : atOf up t = at1 at *
              have hneg := neg_wrap (k := at1) ⟨by omega, by omega⟩
              have HAV := Lib.hid hav
              clear ho4 hb4 hsn hlk hav
              go_wp2_with fail
              refine (HAA.out).mono ?_
              rintro e w5 ⟨rfl, hb5⟩
              have HB5 := Lib.hid (HB4.out.trans (hb5.mono hl4))
              have HO5 := Lib.hid (owns_below HO4.out hb5 : OwnSteps w5 w3.heap.size _ o)
              have HH5 := Lib.hid (HHW.out.below hb5)
              have c3w := HH5.out.c3
              have hl5 : w3.heap.size ≤ w5.heap.size := HB5.out.size
              clear hb5 HAA HO4 HHW HVW
              obtain ⟨R2, hR2⟩ : ∃ R, R = w5.heap.size := ⟨_, rfl⟩
              have hlR2 : w3.heap.size ≤ R2 := by rw [hR2]; exact hl5
              have HR2 := Lib.hid hR2
              clear hR2
              go_wp2_with (at_range; refine wp_range _ rfl _ rfl bm L rfl HH5.out.map ?_; intro w6 hr6 hb6 hs6)
              go_frame
              rw [← HR2.out] at hr6
              rw [← HR2.out]
              have HB6 := Lib.hid (HB5.out.trans (hb6.mono hl5))
              have HO6 := Lib.hid (owns_below HO5.out hb6 : OwnSteps w6 w3.heap.size _ o)
              have HR6 := Lib.hid hr6
              clear hb6 hs6 hr6
              go_loopw [11] (fun a wr => ∃ dn left, RangeIs wr bm R2 L left ∧ (dn ++ left).Perm L ∧ a = .int .i64 (loadOf dn t - at1) ∧ Below w3.heap.size w3 wr ∧ OwnSteps wr w3.heap.size u8 o) (fun _ wr => wr.rangeLeft bm R2)
              case atStart => exact ⟨[], L, HR6.out, List.Perm.refl _, by rw [show loadOf [] t = 0 from rfl]; congr 1; omega, HB6.out, HO6.out⟩
              case round =>
                obtain ⟨dm, lft, hRg, hP, rfl, hb7, ho7⟩ := hrel
                have HP7 := Lib.hid hP
                have HB7 := Lib.hid hb7
                have HO7 := Lib.hid ho7
                clear hP hb7 ho7 HB6 HO6 HR6
                go_wp2_with (at_next; refine wp_next _ rfl _ rfl bm R2 L lft rfl hRg ?_ ?_)
                · intro hl
                  subst hl
                  have hPL : dm.Perm L := by simpa using HP7.out
                  have hld := loadOf_perm hPL t
                  have HLD := Lib.hid hld
                  clear hPL hld hRg
                  generalize loadOf dm t = ld at *
                  have HO8 := HO7.out
                  unfold OwnSteps at HO8
                  rw [HLK.out] at HO8
                  have HO8 := Lib.hid HO8
                  have hl7 : w3.heap.size ≤ wr.heap.size := HB7.out.size
                  go_wp2_with (at_builtin; refine wpList_append_own _ rfl (.tmp 84) (.tmp 88) 33 rfl w3.heap.size 38 j0 _ 2 16 Try.underlying33 hj38 hy0 hy1 hy2 rfl (by decide) _ _ _ rfl (by exact HO8.out.alloc _) ⟨wr.heap.size, 0, none⟩ 1 1 [.int .i64 t, .int .i64 (ld - at1)] rfl rfl (news_at _ _ rfl #[.int .i64 t, .int .i64 (ld - at1)] 38) (by simp [Value.oneCell']) (by unfold maxLen; omega) (by omega) (by simp; omega) ?_)
                  intro v' w8 hown8 hgrow hnil
                  have HO9 := Lib.hid hown8
                  have HG := Lib.hid hgrow
                  clear hown8 hnil hgrow
                  go_wp2_with fail
                  go_roundw
                  case rel =>
                    have hB8 : Below w3.heap.size w3 w8 := (HB7.out.alloc hl7 _).grown HG.out (by simp; omega) (fun g hg => ((World.ownsRow.lt HO8.out) g hg).1)
                    refine ⟨j + 1, by omega, by go_num, hB8, ?_⟩
                    rw [HSN.out, ← HLD.out]
                    exact own_step1 HO9.out
                  case measure => simp [intOf]; omega
                · intro s x y w1 hl hR1 hg1 hs1 hen
                  subst hl
                  clear hs1
                  have hsL : s ∈ L := HP7.out.subset (by simp)
                  have hq := HK.out s hsL
                  have hlb := loadOf_bound (L := dm) (fun z hz => HK.out z (HP7.out.subset (List.mem_append_left _ hz))) t
                  have hdl := HP7.out.length_eq
                  simp at hdl
                  have hav := HAV.out
                  have hsnoc := loadOf_snoc dm s t
                  obtain ⟨id, f0, t0, q⟩ := s
                  unfold slotV at hen
                  simp only at hen hq
                  have hw := small_wrap (a := loadOf dm t - at1 + q) (by omega) (by omega)
                  have hB1 := HB7.out.grown hg1 HB7.out.size (fun k hk => by cases hk; exact hlR2)
                  have hO1 : OwnSteps w1 w3.heap.size u8 o := World.ownsRow.kept HO7.out hg1 (.inr (own_ne HO7.out hRg).1)
                  have HO1 := Lib.hid (owns_below hO1 ((Below.refl _ _).alloc (Nat.le_refl _) (.cells #[.int .i64 id, .int .i64 f0, .int .i64 t0, .int .i64 q] 29)) : OwnSteps (w1.alloc (.cells #[.int .i64 id, .int .i64 f0, .int .i64 t0, .int .i64 q] 29)) w3.heap.size u8 o)
                  have HB1 := Lib.hid (hB1.alloc hB1.size (.cells #[.int .i64 id, .int .i64 f0, .int .i64 t0, .int .i64 q] 29))
                  have HM := Lib.hid (show World.rangeLeft _ bm R2 = (x ++ ⟨id, f0, t0, q⟩ :: y).length from hRg.left_eq)
                  have HP1 := Lib.hid (perm_step HP7.out)
                  have HR1 := Lib.hid (hR1.alloc (.cells #[.int .i64 id, .int .i64 f0, .int .i64 t0, .int .i64 q] 29))
                  have hmeas : (x ++ y).length < (x ++ (⟨id, f0, t0, q⟩ : Slot) :: y).length := by simp
                  have HME := Lib.hid hmeas
                  clear hRg hR1 hg1 hB1 hO1 hsL hlb hdl hav hq hmeas
                  cases d1 : decide (f0 ≤ t)
                  · have hx : loadOf (dm ++ [⟨id, f0, t0, q⟩]) t = loadOf dm t := by
                      rw [hsnoc]
                      have : covS t ⟨id, f0, t0, q⟩ = 0 := by unfold covS; rw [if_neg]; rintro ⟨h1, _⟩; simp at d1 h1; omega
                      omega
                    have HX := Lib.hid hx
                    clear hx hsnoc
                    go_wp2_with fail
                    go_roundw
                    case rel => exact ⟨dm ++ [⟨id, f0, t0, q⟩], x ++ y, HR1.out, HP1.out, by rw [HX.out], HB1.out, HO1.out⟩
                    case measure => rw [HR1.out.left_eq, HM.out]; exact HME.out
                  cases d2 : decide (t < t0)
                  · have hx : loadOf (dm ++ [⟨id, f0, t0, q⟩]) t = loadOf dm t := by
                      rw [hsnoc]
                      have : covS t ⟨id, f0, t0, q⟩ = 0 := by unfold covS; rw [if_neg]; rintro ⟨_, h1⟩; simp at d2 h1; omega
                      omega
                    have HX := Lib.hid hx
                    clear hx hsnoc
                    go_wp2_with fail
                    go_roundw
                    case rel => exact ⟨dm ++ [⟨id, f0, t0, q⟩], x ++ y, HR1.out, HP1.out, by rw [HX.out], HB1.out, HO1.out⟩
                    case measure => rw [HR1.out.left_eq, HM.out]; exact HME.out
                  · have hx : loadOf (dm ++ [⟨id, f0, t0, q⟩]) t - at1 = loadOf dm t - at1 + q := by
                      rw [hsnoc]
                      have : covS t ⟨id, f0, t0, q⟩ = q := by unfold covS; rw [if_pos]; simp at d1 d2; exact ⟨d1, d2⟩
                      omega
                    have HX := Lib.hid hx
                    clear hx hsnoc
                    go_wp2_with fail
                    go_roundw
                    case rel => exact ⟨dm ++ [⟨id, f0, t0, q⟩], x ++ y, HR1.out, HP1.out, by rw [HX.out], HB1.out, HO1.out⟩
                    case measure => rw [HR1.out.left_eq, HM.out]; exact HME.out
            · obtain rfl : j = M := by omega
              have hd3 : decide ((j : Int) < j) = false := by simp
              have hall : ((ts.map fun t => (⟨t, loadOf L t - atOf up t⟩ : Step)).take j) = ts.map fun t => (⟨t, loadOf L t - atOf up t⟩ : Step) := by rw [List.take_of_length_le]; simp [← hML.out]
              rw [hall] at ho4
              have HO5 := Lib.hid ho4
              clear ho4 hall hb4
              go_wp2_with fail
              go_ret
              exact ⟨⟨_, ts, rfl, HMEM.out, HO5.out.mono hl3⟩, HB3.out.trans (HB4.out.mono hl3)⟩
        · intro s x y w1 hl hR1 hg1 hs1 hen
          subst hl
          clear hs1
          obtain ⟨id, f0, t0, q⟩ := s
          unfold slotV at hen
          simp only at hen
          have hB1 := HBb.out.grown hg1 HBb.out.size (fun k hk => by cases hk; exact hlR)
          have HM := Lib.hid (show World.rangeLeft _ bm R = (x ++ ⟨id, f0, t0, q⟩ :: y).length from hRg.left_eq)
          have HP1 := Lib.hid (perm_step HP.out)
          have hown1 : w1.ownsRow w.heap.size 3 1 u3 (stepT up ++ slotT dn).length (flatI (stepT up ++ slotT dn)) := World.ownsRow.kept HOw.out hg1 (.inr (own_ne HOw.out hRg).1)
          have hne1 := own_ne hown1 hR1
          have HNE := Lib.hid hne1
          have hl1 : w.heap.size ≤ w1.heap.size := hB1.size
          have hlen : (stepT up ++ slotT dn).length ≤ 40000 := by
            rw [List.length_append, length_slotT, HLUP.out]
            have := HDL.out
            simp at this
            omega
          have HB1 := Lib.hid hB1
          have HR1 := Lib.hid hR1
          clear hRg hR1 hg1 hne1 hB1
          generalize hlst : stepT up ++ slotT dn = lst at *
          have HLST := Lib.hid hlst
          have HOW := Lib.hid hown1
          clear hlst hown1
          generalize lst.length = ln at *
          go_wp2_with (at_builtin; refine wpList_append_own _ rfl (.tmp 38) (.tmp 43) 42 rfl w.heap.size 3 i0 _ 1 8 Try.underlying42 hi hz0 hz1 hz2 rfl (by decide) _ _ _ rfl (by exact (HOW.out.alloc _).alloc _) ⟨w1.heap.size + 1, 0, none⟩ 2 2 [.int .i64 f0, .int .i64 t0] rfl rfl (news_at _ _ (by simp) #[.int .i64 f0, .int .i64 t0] 3) (by simp [Value.oneCell']) (by unfold maxLen; omega) (by omega) (by simp; omega) ?_)
          intro v' w3 hown3 hgrow hnil
          have HO3 := Lib.hid hown3
          have HG := Lib.hid hgrow
          clear hown3 hnil hgrow
          go_wp2_with fail
          go_roundw
          case rel =>
            have hB3 : Below w.heap.size w w3 := ((HB1.out.alloc hl1 _).alloc (by simp; omega) _).grown HG.out (by simp; omega) (fun g hg => ((World.ownsRow.lt HOW.out) g hg).1)
            have hR3 : RangeIs w3 bm R L (x ++ y) := ((HR1.out.alloc _).alloc _).grown HG.out (Ne.symm HNE.out.2) (Ne.symm HNE.out.1)
            refine ⟨dn ++ [⟨id, f0, t0, q⟩], x ++ y, hR3, HP1.out, hB3, ?_⟩
            rw [slotT_snoc, ← List.append_assoc, HLST.out]
            exact own_int2 HO3.out
          case measure =>
            have hR3 : RangeIs w3 bm R L (x ++ y) := ((HR1.out.alloc _).alloc _).grown HG.out (Ne.symm HNE.out.2) (Ne.symm HNE.out.1)
            rw [hR3.left_eq, HM.out]
            simp

end Go.Proofs.Ytjknmnmilladlaa
