/-
  Walk of the reference (layer 11): lay.
-/
import Derived.Test.YtjknmnmilladlaaR12
namespace Go.Proofs.Ytjknmnmilladlaa
open Go.RowKit

theorem set3_frozen {w : World} {R b o : Nat} {a x c : Value} : (((w.setCell ⟨R, 0, none⟩ a).setCell ⟨R, 1, none⟩ x).setCell ⟨R, 2, none⟩ c).frozen? ⟨b, o, none⟩ = w.frozen? ⟨b, o, none⟩ := by
  rw [frozen_set, frozen_set, frozen_set]
theorem set3_size {w : World} {R : Nat} {a x c : Value} : (((w.setCell ⟨R, 0, none⟩ a).setCell ⟨R, 1, none⟩ x).setCell ⟨R, 2, none⟩ c).heap.size = w.heap.size := by
  simp

set_option maxHeartbeats 8000000 in
set_option maxRecDepth 100000 in
theorem refLay {w : World} {vu vs : Value} {n : Int} {up : List Step} {S : List Slot} (hu : IsSteps w vu up) (hs : IsSlots w vs S) (hno : ∀ m c, vs = .slice none m c → c = m) (hf : Fine n up S) (hl : S.length < 9000) (s : Slot) (hr : rightOf n s = true) :
    Calls Try.prog 52 #[.agg #[.int .i64 n, vu, vs], slotV s] w fun e w' => (∃ T, Ins S s T ∧ ((RoomOf up T ∧ ∃ v, e = .returned (.tuple #[.agg #[.int .i64 n, vu, v], .int .i64 0]) ∧ OwnSlots w' w.heap.size v T) ∨ (¬ RoomOf up T ∧ e = .returned (.tuple #[.agg #[.int .i64 n, vu, vs], .int .i64 70])))) ∧ Below w.heap.size w w' := by
  obtain ⟨id, frm, to, k⟩ := s
  obtain ⟨au, cu, hvu, _, _⟩ := hu.shape
  obtain ⟨az, cz, hvs, _, _⟩ := hs.shape
  generalize up.length = mu at hvu
  generalize S.length = mz at hvs
  have HV := Lib.hid hvu
  have HF := Lib.hid hf
  have HR := Lib.hid hr
  have HL := Lib.hid hl
  unfold slotV
  simp only
  have hBB : Below w.heap.size w (((w.alloc (.cells #[.int .i64 n, vu, vs] 59)).alloc (.cells #[.int .i64 id, .int .i64 frm, .int .i64 to, .int .i64 k] 29)).alloc (.cells #[.int .i64 0, .slice none 0 0, .slice none 0 0] 59)) := (((Below.refl w.heap.size w).alloc (Nat.le_refl _) _).alloc (by simp) _).alloc (by simp; omega) _
  have HW := Lib.hid (refWith (w := ((w.alloc (.cells #[.int .i64 n, vu, vs] 59)).alloc (.cells #[.int .i64 id, .int .i64 frm, .int .i64 to, .int .i64 k] 29)).alloc (.cells #[.int .i64 0, .slice none 0 0, .slice none 0 0] 59)) n ⟨_, _, _, hvu⟩ (hs.below hBB) hno (Nat.le_of_lt hl) ⟨id, frm, to, k⟩)
  have HU := Lib.hid (hu.below hBB)
  have t0 : (((w.alloc (.cells #[.int .i64 n, vu, vs] 59)).alloc (.cells #[.int .i64 id, .int .i64 frm, .int .i64 to, .int .i64 k] 29)).alloc (.cells #[.int .i64 0, .slice none 0 0, .slice none 0 0] 59)).cell? ⟨w.heap.size, 0, none⟩ = some (.int .i64 n) := cell_old _ (cell_old _ (cell_new w _ 59 0 rfl))
  have t1 : (((w.alloc (.cells #[.int .i64 n, vu, vs] 59)).alloc (.cells #[.int .i64 id, .int .i64 frm, .int .i64 to, .int .i64 k] 29)).alloc (.cells #[.int .i64 0, .slice none 0 0, .slice none 0 0] 59)).cell? ⟨w.heap.size, 1, none⟩ = some vu := cell_old _ (cell_old _ (cell_new w _ 59 1 rfl))
  have t2 : (((w.alloc (.cells #[.int .i64 n, vu, vs] 59)).alloc (.cells #[.int .i64 id, .int .i64 frm, .int .i64 to, .int .i64 k] 29)).alloc (.cells #[.int .i64 0, .slice none 0 0, .slice none 0 0] 59)).cell? ⟨w.heap.size, 2, none⟩ = some vs := cell_old _ (cell_old _ (cell_new w _ 59 2 rfl))
  have x0 := cell_old (.cells #[.int .i64 0, .slice none 0 0, .slice none 0 0] 59) (cell_at1 w (.cells #[.int .i64 n, vu, vs] 59) #[.int .i64 id, .int .i64 frm, .int .i64 to, .int .i64 k] 29 0 rfl)
  have x1 := cell_old (.cells #[.int .i64 0, .slice none 0 0, .slice none 0 0] 59) (cell_at1 w (.cells #[.int .i64 n, vu, vs] 59) #[.int .i64 id, .int .i64 frm, .int .i64 to, .int .i64 k] 29 1 rfl)
  have x2 := cell_old (.cells #[.int .i64 0, .slice none 0 0, .slice none 0 0] 59) (cell_at1 w (.cells #[.int .i64 n, vu, vs] 59) #[.int .i64 id, .int .i64 frm, .int .i64 to, .int .i64 k] 29 2 rfl)
  have x3 := cell_old (.cells #[.int .i64 0, .slice none 0 0, .slice none 0 0] 59) (cell_at1 w (.cells #[.int .i64 n, vu, vs] 59) #[.int .i64 id, .int .i64 frm, .int .i64 to, .int .i64 k] 29 3 rfl)
  have r0 := cell_at2 w (.cells #[.int .i64 n, vu, vs] 59) (.cells #[.int .i64 id, .int .i64 frm, .int .i64 to, .int .i64 k] 29) #[.int .i64 0, .slice none 0 0, .slice none 0 0] 59 0 rfl
  have r1 := cell_at2 w (.cells #[.int .i64 n, vu, vs] 59) (.cells #[.int .i64 id, .int .i64 frm, .int .i64 to, .int .i64 k] 29) #[.int .i64 0, .slice none 0 0, .slice none 0 0] 59 1 rfl
  have r2 := cell_at2 w (.cells #[.int .i64 n, vu, vs] 59) (.cells #[.int .i64 id, .int .i64 frm, .int .i64 to, .int .i64 k] 29) #[.int .i64 0, .slice none 0 0, .slice none 0 0] 59 2 rfl
  have fz := fun o => frozen_at2 w (.cells #[.int .i64 n, vu, vs] 59) (.cells #[.int .i64 id, .int .i64 frm, .int .i64 to, .int .i64 k] 29) #[.int .i64 0, .slice none 0 0, .slice none 0 0] 59 o
  have hsz : (((w.alloc (.cells #[.int .i64 n, vu, vs] 59)).alloc (.cells #[.int .i64 id, .int .i64 frm, .int .i64 to, .int .i64 k] 29)).alloc (.cells #[.int .i64 0, .slice none 0 0, .slice none 0 0] 59)).heap.size = w.heap.size + 3 := by simp
  have HT0 := Lib.hid t0
  have HT1 := Lib.hid t1
  have HT2 := Lib.hid t2
  have HR0 := Lib.hid r0
  have HR1 := Lib.hid r1
  have HR2 := Lib.hid r2
  have HFZ := Lib.hid fz
  have HBB := Lib.hid hBB
  have HSZ := Lib.hid hsz
  clear hu hs hno hf hr hl r0 r1 r2 fz hBB hsz
  subst hvu
  subst hvs
  go_enter Try.func52, Try.ntmps52
  go_wp2_with fail
  refine (HW.out).mono ?_
  obtain ⟨w1, hw1⟩ : ∃ w1, w1 = ((w.alloc (.cells #[.int .i64 n, .slice au mu cu, .slice az mz cz] 59)).alloc (.cells #[.int .i64 id, .int .i64 frm, .int .i64 to, .int .i64 k] 29)).alloc (.cells #[.int .i64 0, .slice none 0 0, .slice none 0 0] 59) := ⟨_, rfl⟩
  rw [← hw1] at HU HT0 HT1 HT2 HR0 HR1 HR2 HFZ HBB HSZ ⊢
  clear t0 t1 t2 x0 x1 x2 x3 HW hw1
  rintro e w2 ⟨⟨v, q, rfl, hq1, hq2, hq3, hov⟩, hb2⟩
  obtain ⟨T, hT⟩ : ∃ T, T = S.take q ++ [⟨id, frm, to, k⟩] ++ S.drop q := ⟨_, rfl⟩
  have hins : Ins S ⟨id, frm, to, k⟩ T := ⟨q, hq1, hq2, hq3, hT⟩
  rw [← hT] at hov
  have hft := hins.fine HF.out HR.out HL.out
  obtain ⟨av, cv, rfl, _, _⟩ := hov.is.shape
  have HINS := Lib.hid hins
  have HU2 := Lib.hid (HU.out.below hb2)
  have HB2 := Lib.hid hb2
  have HOV := Lib.hid hov
  have HFT := Lib.hid hft
  generalize hml : T.length = ml at *
  clear hq1 hq2 hq3 hT hins hft hov HU
  have hb3 : Below w2.heap.size w2 (w2.alloc (.cells #[.int .i64 n, .slice au mu cu, .slice av ml cv] 59)) := (Below.refl _ _).alloc (Nat.le_refl _) _
  have s0 := cell_new w2 #[.int .i64 n, .slice au mu cu, .slice av ml cv] 59 0 rfl
  have s1 := cell_new w2 #[.int .i64 n, .slice au mu cu, .slice av ml cv] 59 1 rfl
  have s2 := cell_new w2 #[.int .i64 n, .slice au mu cu, .slice av ml cv] 59 2 rfl
  have HB3 := Lib.hid hb3
  by_cases hroom : RoomOf up T
  · have HRM := Lib.hid (refRoom (n := n) (HU2.out.below hb3) (HOV.out.is.below hb3) HFT.out true ⟨fun _ => hroom, fun _ => rfl⟩)
    have HRO := Lib.hid hroom
    clear hb3 hroom
    go_wp2_with fail
    refine (HRM.out).mono ?_
    obtain ⟨w3, hw3⟩ : ∃ w3, w3 = w2.alloc (.cells #[.int .i64 n, .slice au mu cu, .slice av ml cv] 59) := ⟨_, rfl⟩
    rw [← hw3] at s0 s1 s2 HB3 ⊢
    rintro e w4 ⟨rfl, hb4⟩
    have hsz3 : w3.heap.size = w2.heap.size + 1 := by rw [hw3]; simp
    have s0 := (hb4.cell (p := ⟨w2.heap.size, 0, none⟩) (by simp only; omega)).trans s0
    have s1 := (hb4.cell (p := ⟨w2.heap.size, 1, none⟩) (by simp only; omega)).trans s1
    have s2 := (hb4.cell (p := ⟨w2.heap.size, 2, none⟩) (by simp only; omega)).trans s2
    have hb14 : Below w1.heap.size w1 w4 := HB2.out.trans ((HB3.out.mono HB2.out.size).trans (hb4.mono (by have := HB2.out.size; omega)))
    have hR : w.heap.size + 1 + 1 < w1.heap.size := by have := HSZ.out; omega
    have r0 := (hb14.cell (p := ⟨w.heap.size + 1 + 1, 0, none⟩) hR).trans HR0.out
    have r1 := (hb14.cell (p := ⟨w.heap.size + 1 + 1, 1, none⟩) hR).trans HR1.out
    have r2 := (hb14.cell (p := ⟨w.heap.size + 1 + 1, 2, none⟩) hR).trans HR2.out
    have f0 := (hb14.frozen (p := ⟨w.heap.size + 1 + 1, 0, none⟩) hR).trans (HFZ.out 0)
    have f1 := (hb14.frozen (p := ⟨w.heap.size + 1 + 1, 1, none⟩) hR).trans (HFZ.out 1)
    have f2 := (hb14.frozen (p := ⟨w.heap.size + 1 + 1, 2, none⟩) hR).trans (HFZ.out 2)
    have HO4 := Lib.hid (show OwnSlots w4 w1.heap.size (.slice av ml cv) T from owns_below HOV.out (HB3.out.trans (hb4.mono (by omega))))
    have HB14 := Lib.hid hb14
    clear hw3 hb4 hb14 hb2
    go_wp2_with fail
    obtain ⟨s0, s1, s2⟩ := set3 (a := .int .i64 n) (b := .slice au mu cu) (c := .slice av ml cv) r0 r1 r2
    refine bodyPost_ret (v := .tuple #[.agg #[.int .i64 n, .slice au mu cu, .slice av ml cv], .int .i64 0]) (by simp [results, Try.f52]; go_simp) rfl ?_
    refine ⟨⟨T, HINS.out, .inl ⟨HRO.out, _, rfl, ?_⟩⟩, ?_⟩
    · exact OwnSlots.wider (owns_set3 HO4.out hR) (by omega)
    · exact below_set3 (HBB.out.trans (HB14.out.mono HBB.out.size)) (by omega)
  · have HRM := Lib.hid (refRoom (n := n) (HU2.out.below hb3) (HOV.out.is.below hb3) HFT.out false ⟨fun h => absurd h (by simp), fun h => absurd h hroom⟩)
    have HRO := Lib.hid hroom
    clear hb3 hroom
    go_wp2_with fail
    refine (HRM.out).mono ?_
    obtain ⟨w3, hw3⟩ : ∃ w3, w3 = w2.alloc (.cells #[.int .i64 n, .slice au mu cu, .slice av ml cv] 59) := ⟨_, rfl⟩
    rw [← hw3] at s0 s1 s2 HB3 ⊢
    rintro e w4 ⟨rfl, hb4⟩
    have hsz3 : w3.heap.size = w2.heap.size + 1 := by rw [hw3]; simp
    have hb14 : Below w1.heap.size w1 w4 := HB2.out.trans ((HB3.out.mono HB2.out.size).trans (hb4.mono (by have := HB2.out.size; omega)))
    have hR : w.heap.size + 1 + 1 < w1.heap.size := by have := HSZ.out; omega
    have t0 := (hb14.cell (p := ⟨w.heap.size, 0, none⟩) (by simp only; omega)).trans HT0.out
    have t1 := (hb14.cell (p := ⟨w.heap.size, 1, none⟩) (by simp only; omega)).trans HT1.out
    have t2 := (hb14.cell (p := ⟨w.heap.size, 2, none⟩) (by simp only; omega)).trans HT2.out
    have r0 := (hb14.cell (p := ⟨w.heap.size + 1 + 1, 0, none⟩) hR).trans HR0.out
    have r1 := (hb14.cell (p := ⟨w.heap.size + 1 + 1, 1, none⟩) hR).trans HR1.out
    have r2 := (hb14.cell (p := ⟨w.heap.size + 1 + 1, 2, none⟩) hR).trans HR2.out
    have f0 := (hb14.frozen (p := ⟨w.heap.size + 1 + 1, 0, none⟩) hR).trans (HFZ.out 0)
    have f1 := (hb14.frozen (p := ⟨w.heap.size + 1 + 1, 1, none⟩) hR).trans (HFZ.out 1)
    have f2 := (hb14.frozen (p := ⟨w.heap.size + 1 + 1, 2, none⟩) hR).trans (HFZ.out 2)
    have HB14 := Lib.hid hb14
    clear hw3 hb4 hb14 hb2 s0 s1 s2
    go_wp2_with fail
    obtain ⟨s0, s1, s2⟩ := set3 (a := .int .i64 n) (b := .slice au mu cu) (c := .slice az mz cz) r0 r1 r2
    refine bodyPost_ret (v := .tuple #[.agg #[.int .i64 n, .slice au mu cu, .slice az mz cz], .int .i64 70]) (by simp [results, Try.f52]; go_simp) rfl ?_
    refine ⟨⟨T, HINS.out, .inr ⟨HRO.out, rfl⟩⟩, ?_⟩
    exact below_set3 (HBB.out.trans (HB14.out.mono HBB.out.size)) (by omega)

end Go.Proofs.Ytjknmnmilladlaa
