/-
  Walks: steps.place and steps.cut, as plain functions of the list that the slice reads as.
-/
import Derived.Test.YtjknmnmilladlaaW2
import Derived.Test.YtjknmnmilladlaaP1
import Derived.Deep.RegionHeld3
import Derived.Deep.AppendLies
namespace Go.Proofs.Ytjknmnmilladlaa
open Go.RowKit

theorem placeAny {w : World} {v : Value} {l : List Step} (h : IsSteps w v l) (hv : Valid l) (t : Int) (ht : 0 ≤ t) (ht1 : t ≤ 1099511627775) :
    Calls Try.prog 41 #[v, .int .i64 t] w fun e w' => e = .returned (.int .i64 (plc l t)) ∧ Below w.heap.size w w' := by
  obtain ⟨b, off, cap, rfl, hnc, hcap, hb, hA, hF, hR⟩ := h.cells hv.pos
  refine (place_raw (atv l) (frv l) b off cap l.length t w hv.pos hv.len hb ht ht1 hv.zero hA hF hv.time hv.rise).mono ?_
  rintro e w' ⟨p, hp, h1, h2, rfl, hB⟩
  exact ⟨ret_int (by rw [plc_eq hp h1 h2]), hB⟩

theorem Try.info38 : (Try.prog.info? 38).map (fun i => (i.zero, i.size, i.bytes)) = some (some (.agg #[.int .i64 0, .int .i64 0]), 2, 16) := by kernel_rfl
theorem Try.info3 : (Try.prog.info? 3).map (fun i => (i.zero, i.size, i.bytes)) = some (some (.int .i64 0), 1, 8) := by kernel_rfl

def CutPost (l : List Step) (frm to : Int) (w : World) (e : Ending) (w' : World) : Prop :=
  ∃ v, e = .returned v ∧ OwnSteps w' w.heap.size v (cutL l frm to) ∧ Below w.heap.size w w'

set_option maxHeartbeats 1000000 in
set_option maxRecDepth 100000 in
theorem cutAny {w : World} {v : Value} {l : List Step} (h : IsSteps w v l) (hv : Valid l) (frm to : Int) (hf : 0 ≤ frm) (hf1 : frm ≤ 1099511627775) (hto : frm < to) (_hto1 : to ≤ 1099511627775) :
    Calls Try.prog 57 #[v, .int .i64 frm, .int .i64 to] w (CutPost l frm to w) := by
  have HP := Lib.hid (placeAny h hv frm hf hf1)
  obtain ⟨b, off, cap, rfl, hnc, hcap, hb, hA, hF, hR⟩ := h.cells hv.pos
  have HA := Lib.hid hA; clear hA
  have HF := Lib.hid hF; clear hF
  clear hR h
  have hlen := hv.len
  have hp := (hv.plc hf).1
  generalize hn : l.length = n at *
  generalize hpe : plc l frm = p at *
  have HV := Lib.hid hv; clear hv
  have HN := Lib.hid hn; clear hn
  have HPE := Lib.hid hpe; clear hpe
  obtain ⟨i0, hi, hz0, hz1, hz2⟩ := info_parts Try.info38
  go_enter Try.func57, Try.ntmps57
  go_wp2_with fail
  refine HP.out.mono ?_
  rintro e w1 ⟨rfl, hb1⟩
  have HB1 := Lib.hid hb1; clear hb1
  go_wp2_with fail
  go_loopw [7, 8] (fun o i wr => ∃ k : Nat, p ≤ k ∧ k ≤ n ∧ i = .int .i64 k ∧ Below w.heap.size w wr ∧ OwnSteps wr w.heap.size o (cutI l frm p k) ∧ (∀ j, p ≤ j → j < k → atv l j < to)) (fun _ i _ => n - (intOf i).toNat)
  case atStart => exact ⟨p, Nat.le_refl _, by omega, rfl, HB1.out, by rw [cutI_nil]; exact World.ownsRow_nil _ _ _ _, by omega⟩
  case round =>
    obtain ⟨k, hpk, hkn, rfl, hbr, hown, hlt⟩ := hrel
    have HLT := Lib.hid hlt; clear hlt
    have HOWN := Lib.hid hown; clear hown
    have HB := Lib.hid hbr
    have hwr := hbr.size
    clear hbr
    by_cases hk : k < n
    · obtain ⟨ak, hak⟩ : ∃ am, am = atv l k := ⟨_, rfl⟩
      obtain ⟨fk, hfk⟩ : ∃ fm, fm = frv l k := ⟨_, rfl⟩
      have c1 : wr.cell? ⟨b, off + k * 2, none⟩ = some (.int .i64 ak) := by rw [hak]; exact (HB.out.cell (by exact hb)).trans (HA.out _ hk)
      have c2 : wr.cell? ⟨b, off + k * 2 + 1, none⟩ = some (.int .i64 fk) := by rw [hfk]; exact (HB.out.cell (by exact hb)).trans (HF.out _ hk)
      have hbw : b < wr.heap.size := Nat.lt_of_lt_of_le hb hwr
      have HAK := Lib.hid hak; clear hak
      have HFK := Lib.hid hfk; clear hfk
      have hkk : (k : Int) < n := by omega
      by_cases hc : ak < to
      · go_wp2_with fail
        have hob : u7.ownBlock ≠ some b := fun e => by have := (World.ownsRow.lt HOWN.out) b e; omega
        have hk0 : (0 : Int) ≤ (k : Int) := Int.natCast_nonneg _
        have hl2 : (cutI l frm p k).length ≤ 20000 := by rw [length_cutI]; omega
        go_region_held3 (fun w' => w'.cell? ⟨b, off + k * 2, none⟩ = some (.int .i64 ak) ∧ w'.cell? ⟨b, off + k * 2 + 1, none⟩ = some (.int .i64 fk)) (first | go_keep | (go_split_ands; refine ⟨?_, ?_⟩ <;> (rw [hgrow.cell_far _ (by simp; omega) (Ne.symm hob)]; assumption))) ((refine step_append_lies _ (by rfl) _ _ _ (by rfl) w.heap.size 38 i0 _ 2 16 Try.underlying33 hi hz0 hz1 hz2 rfl (by omega) u7 _ _ (by rfl) ((HOWN.out.alloc _).drew) ⟨wr.heap.size, 0, none⟩ 1 1 [.int .i64 (if ak < frm then frm else ak), .int .i64 fk] (by rfl) (by rfl) (World.news_of_block (cs := #[.int .i64 (if ak < frm then frm else ak), .int .i64 fk]) (t := 38) (fr := (0, 0)) (heap_alloc_new wr _)) (by simp [Value.oneCell']) (by omega) (by unfold maxLen; omega) (by omega) (by simp; omega) (wr.heap.size + 1) (by simp) ?_; intro gg cap1 w2 hown1 hgrow hat hlt2))
        have HO := Lib.hid hown1; clear hown1
        have HG := Lib.hid hgrow; clear hgrow
        clear hat hob
        go_wp2_with fail
        go_roundw
        case rel =>
          have hB2 : Below w.heap.size wr w2 := ((Below.refl _ _).alloc hwr _).drew.grown HG.out (by simp; omega) (fun g hg => ((World.ownsRow.lt HOWN.out) g hg).1)
          refine ⟨k + 1, by omega, by omega, by go_num, HB.out.trans hB2, ?_, fun j hj1 hj2 => ?_⟩
          · have he : cutI l frm p (k + 1) = cutI l frm p k ++ [⟨if ak < frm then frm else ak, fk⟩] := by
              rw [cutI_snoc _ _ _ _ hpk, HAK.out, HFK.out]
              congr 3
              split <;> omega
            rw [he]
            unfold OwnSteps
            rw [flatS_append, List.length_append]
            exact HO.out
          · by_cases h : j = k
            · subst h; rw [← HAK.out]; exact hc
            · exact HLT.out j hj1 (by omega)
        case measure => simp [intOf]; omega
      · have hq : k = plc l (to - 1) + 1 := by
          have hn' := HN.out
          have hak' := HAK.out
          have hkp : p < k := by
            rcases Nat.lt_or_ge p k with h | h
            · exact h
            · obtain rfl : p = k := by omega
              have := (HV.out.plc hf).2.1
              rw [HPE.out] at this
              omega
          have := plc_eq (l := l) (t := to - 1) (p := k - 1) (by omega) (by have := HLT.out (k - 1) (by omega) (by omega); omega) (fun z hz hzn => by
            have h1 : atv l k ≤ atv l z := by
              rcases Nat.lt_or_ge k z with h | h
              · have := HV.out.rise k z h hzn; omega
              · obtain rfl : k = z := by omega
                omega
            omega)
          omega
        have HQ := Lib.hid hq; clear hq
        go_wp2_with fail
        go_ret
        refine ⟨_, rfl, ?_, HB.out⟩
        unfold cutL
        rw [← HQ.out, HPE.out]
        exact HOWN.out
    · have hq : k = plc l (to - 1) + 1 := by
        have hn' := HN.out
        have := plc_eq (l := l) (t := to - 1) (p := k - 1) (by omega) (by have := HLT.out (k - 1) (by omega) (by omega); omega) (fun z hz hzn => by omega)
        omega
      have HQ := Lib.hid hq; clear hq
      go_wp2_with fail
      go_ret
      refine ⟨_, rfl, ?_, HB.out⟩
      unfold cutL
      rw [← HQ.out, HPE.out]
      exact HOWN.out

end Go.Proofs.Ytjknmnmilladlaa
