/-
  Walk: the law's known.
-/
import Derived.Test.YtjknmnmilladlaaW30
import Derived.Test.YtjknmnmilladlaaP13
namespace Go.Proofs.Ytjknmnmilladlaa
open Go.RowKit

set_option maxHeartbeats 8000000 in
set_option maxRecDepth 100000 in
theorem knownYes (w : World) : Calls Try.prog 12 #[] w fun e w' => e = .returned (.bool true) ∧ Below w.heap.size w w' := by
  have HN := Lib.hid (newYes 4 w (by omega) (by omega))
  have hI0 := Inv.new (n := 4) (by omega) (by omega)
  go_enter Try.func12, Try.ntmps12
  go_wp2_with fail
  refine (HN.out).mono ?_
  rintro e w1 ⟨⟨bk, bm, rfl, hk, h1, h2⟩, hb1⟩
  have HT := Lib.hid (takeAll hk hI0 ⟨1, ⟨1, 0, 10, 3⟩⟩ rfl)
  have HB1 := Lib.hid hb1
  have hs1 : w.heap.size ≤ w1.heap.size := hb1.size
  clear hk hb1
  unfold slotV at HT
  simp only at HT
  go_wp2_with fail
  refine (HT.out).mono ?_
  rintro e w2 ⟨err, up2, fr2, L2, rfl, hd, hk2, hK2⟩
  have hI1 := hd.inv hI0
  obtain ⟨rfl, rfl, rfl, rfl⟩ := known1 hd
  have HT2 := Lib.hid (takeAll hk2 hI1 ⟨1, ⟨2, 5, 9, 2⟩⟩ rfl)
  have HK2 := Lib.hid (hK2.below h1 h2 hs1)
  have hs2 : w1.heap.size ≤ w2.heap.size := hK2.size
  clear hd hk2 hK2 hI0 HT
  unfold slotV at HT2
  simp only at HT2
  go_wp2_with fail
  refine (HT2.out).mono ?_
  rintro e w3 ⟨err, up2, fr2, L2, rfl, hd, hk2, hK2⟩
  have hI2 := hd.inv hI1
  obtain ⟨rfl, rfl, rfl, rfl⟩ := known2 hd
  have HT3 := Lib.hid (outAll hk2 hI2 ⟨5, ⟨0, 3, 4, 2⟩⟩ rfl)
  have HK3 := Lib.hid (hK2.below h1 h2 (by omega))
  have hs3 : w2.heap.size ≤ w3.heap.size := hK2.size
  clear hd hk2 hK2 hI1 HT2
  simp only at HT3
  go_wp2_with fail
  refine (HT3.out).mono ?_
  rintro e w4 ⟨v, ids, err, up2, fr2, L2, rfl, hv, hd, hk2, hK2⟩
  obtain ⟨rfl, rfl⟩ := known3 hd
  have HK4 := Lib.hid (hK2.below h1 h2 (by omega))
  have hs4 : w3.heap.size ≤ w4.heap.size := hK2.size
  have hB4 : Below w.heap.size w w4 := ((HB1.out.trans HK2.out).trans HK3.out).trans HK4.out
  have HB4 := Lib.hid hB4
  have HV := Lib.hid hv
  clear hd hk2 hK2 hI2 HT3 hv hB4 h1 h2 HB1 HK2 HK3 HK4
  obtain ⟨ao, cp, rfl, _, _⟩ := HV.out.shape
  have hvi : IsInts (w4.alloc (.cells #[.int .i64 1] 3)) (.slice (some ⟨w4.heap.size, 0, none⟩) 1 1) [1] :=
    (show OwnInts _ w4.heap.size _ [1] from World.ownsRow_lit (e := 3) (size := 1) w4 #[.int .i64 1] 1 (Nat.le_refl _) (by unfold maxLen; omega) rfl).is
  have hBa : Below w4.heap.size w4 (w4.alloc (.cells #[.int .i64 1] 3)) := (Below.refl _ _).alloc (Nat.le_refl _) _
  have HBA := Lib.hid hBa
  have HSI := Lib.hid (sameInts (HV.out.below hBa) hvi)
  simp only [decide_true] at HSI
  clear hvi hBa
  go_wp2_with fail
  refine (HSI.out).mono ?_
  rintro e w5 ⟨rfl, hb5⟩
  have HB5 := Lib.hid ((HB4.out.trans (HBA.out.mono (by omega))).trans (hb5.mono (by simp; omega)))
  clear hb5
  have HF := Lib.hid (freeNil none 0 0 w5)
  go_wp2_with fail
  refine (HF.out).mono ?_
  rintro e w6 ⟨rfl, hb6⟩
  have HB6 := Lib.hid (HB5.out.trans (hb6.mono HB5.out.size))
  clear hb6
  go_wp2_with fail
  go_ret
  exact ⟨rfl, HB6.out⟩

end Go.Proofs.Ytjknmnmilladlaa
