/-
  Walk: the law BookNew.
-/
import Derived.Test.YtjknmnmilladlaaW31
import Derived.Test.YtjknmnmilladlaaP14
namespace Go.Proofs.Ytjknmnmilladlaa
open Go.RowKit

/-- Same at two lists that are the same one. -/
theorem sameStepsT {w : World} {v1 v2 : Value} {l m : List Step} (h1 : IsSteps w v1 l) (h2 : IsSteps w v2 m) (he : l = m) :
    Calls Try.prog 16 #[v1, v2] w fun e w' => e = .returned (.bool true) ∧ Below w.heap.size w w' := (sameSteps h1 h2).mono fun _ _ ⟨a, b⟩ => ⟨by rw [a]; simp [he], b⟩
theorem sameIntsT {w : World} {v1 v2 : Value} {l m : List Int} (h1 : IsInts w v1 l) (h2 : IsInts w v2 m) (he : l = m) :
    Calls Try.prog 17 #[v1, v2] w fun e w' => e = .returned (.bool true) ∧ Below w.heap.size w w' := (sameInts h1 h2).mono fun _ _ ⟨a, b⟩ => ⟨by rw [a]; simp [he], b⟩

set_option maxHeartbeats 8000000 in
set_option maxRecDepth 100000 in
theorem bookNewNo (n f g : Int) (w : World) (hn : n < 1 ∨ 10000 < n) : Calls Try.prog 3 #[.int .i64 n, .int .u16 f, .int .u8 g] w fun e w' => e = .returned (.bool true) ∧ Below w.heap.size w w' := by
  have HN := Lib.hid (newNo n w hn)
  have HT := Lib.hid (fun w1 => takeNil w1 ⟨1, 0, 1, 1⟩)
  unfold slotV at HT
  simp only at HT
  by_cases h1 : n < 1
  · have d1 : decide (n < 1) = true := by simpa using h1
    clear hn h1
    go_enter Try.func3, Try.ntmps3
    go_wp2_with fail
    refine (HN.out).mono ?_
    rintro e w1 ⟨rfl, hb1⟩
    have HB := Lib.hid hb1
    clear hb1
    go_wp2_with fail
    refine (HT.out _).mono ?_
    rintro e w2 ⟨rfl, hb2⟩
    have HB2 := Lib.hid (HB.out.trans (hb2.mono HB.out.size))
    clear hb2
    go_wp2_with fail
    refine (knownYes _).mono ?_
    rintro e w3 ⟨rfl, hb3⟩
    have HB3 := Lib.hid (HB2.out.trans (hb3.mono HB2.out.size))
    clear hb3
    go_wp2_with fail
    go_ret
    exact ⟨rfl, HB3.out⟩
  · have d1 : decide (n < 1) = false := by simpa using h1
    have d2 : decide (10000 < n) = true := by simp; omega
    clear hn h1
    go_enter Try.func3, Try.ntmps3
    go_wp2_with fail
    refine (HN.out).mono ?_
    rintro e w1 ⟨rfl, hb1⟩
    have HB := Lib.hid hb1
    clear hb1
    go_wp2_with fail
    refine (HT.out _).mono ?_
    rintro e w2 ⟨rfl, hb2⟩
    have HB2 := Lib.hid (HB.out.trans (hb2.mono HB.out.size))
    clear hb2
    go_wp2_with fail
    refine (knownYes _).mono ?_
    rintro e w3 ⟨rfl, hb3⟩
    have HB3 := Lib.hid (HB2.out.trans (hb3.mono HB2.out.size))
    clear hb3
    go_wp2_with fail
    go_ret
    exact ⟨rfl, HB3.out⟩

set_option maxHeartbeats 8000000 in
set_option maxRecDepth 100000 in
theorem bookNewYes (n f g : Int) (w : World) (n1 : 1 ≤ n) (n2 : n ≤ 10000) (f1 : 0 ≤ f) (f2 : f ≤ 65535) (g1 : 0 ≤ g) (g2 : g ≤ 255) : Calls Try.prog 3 #[.int .i64 n, .int .u16 f, .int .u8 g] w fun e w' => e = .returned (.bool true) ∧ Below w.heap.size w w' := by
  have HN := Lib.hid (newYes n w n1 n2)
  have HI0 := Lib.hid (Inv.new n1 n2)
  have d1 : decide (n < 1) = false := by simp; omega
  have d2 : decide (10000 < n) = false := by simp; omega
  have hw1 : IntKind.i64.wrap (f + 1) = f + 1 := small_wrap (by omega) (by omega)
  have hw2 : IntKind.i64.wrap (f + 1 + g) = f + 1 + g := small_wrap (by omega) (by omega)
  go_enter Try.func3, Try.ntmps3
  go_wp2_with fail
  refine (HN.out).mono ?_
  rintro e w1 ⟨⟨bk, bm, rfl, hk, h1, h2⟩, hb1⟩
  have HT := Lib.hid (takeAll hk HI0.out ⟨1, ⟨1, f, f + 1 + g, n⟩⟩ rfl)
  have HB1 := Lib.hid hb1
  have hs1 : w.heap.size ≤ w1.heap.size := hb1.size
  clear hk hb1
  unfold slotV at HT
  simp only at HT
  go_wp2_with fail
  refine (HT.out).mono ?_
  rintro e w2 ⟨err, up2, fr1, L2, rfl, hd, hk2, hK2⟩
  obtain ⟨rfl, rfl, rfl, hI1⟩ := new1 n1 n2 f1 (by omega) (by omega) hd
  have HI1 := Lib.hid hI1
  have HK1 := Lib.hid hk2
  have HB2 := Lib.hid (HB1.out.trans (hK2.below h1 h2 hs1))
  have HS := Lib.hid (stepsAny hk2 (by have := hI1.flen; omega))
  clear hd hk2 hK2 hI1
  go_wp2_with fail
  refine (HS.out).mono ?_
  rintro e w3 ⟨⟨v, rfl, hv⟩, hb3⟩
  have HLE := Lib.hid (leastYes hv.is (chk_iff.2 HI1.out.vf) f (f + 1 + g) (isT_iff.2 ⟨by omega, by omega⟩) (isT_iff.2 ⟨by omega, by omega⟩) (by omega))
  have HK2 := Lib.hid (HK1.out.below hb3)
  have HB3 := Lib.hid (HB2.out.trans (hb3.mono HB2.out.size))
  clear hv hb3
  go_wp2_with fail
  refine (HLE.out).mono ?_
  rintro e w4 ⟨s, hs, rfl, hb4⟩
  have hz : s.free = 0 := by
    obtain ⟨t, ht1, ht2, ht3⟩ := mem_cutL_val HI1.out.vf f1 (by omega) hs
    rw [← ht3]
    exact new1_val HI1.out f1 ht1 ht2
  rw [hz]
  have HK3 := Lib.hid (HK2.out.below hb4)
  have HB4 := Lib.hid (HB3.out.trans (hb4.mono HB3.out.size))
  have HT2 := Lib.hid (takeAll HK3.out HI1.out ⟨1, ⟨2, f, f + 1, 1⟩⟩ rfl)
  unfold slotV at HT2
  simp only at HT2
  clear hs hz hb4
  go_wp2_with fail
  refine (HT2.out).mono ?_
  rintro e w5 ⟨err, up2, fr2, L2, rfl, hd, hk2, hK2⟩
  obtain ⟨rfl, rfl, rfl, rfl⟩ := new2 n1 f1 (by omega) (by omega) HI1.out hd
  have HK4 := Lib.hid hk2
  have HB5 := Lib.hid (HB4.out.trans (hK2.below h1 h2 HB4.out.size))
  have hlt5 := hk2.lt
  have hvi : IsInts (w5.alloc (.cells #[.int .i64 1] 3)) (.slice (some ⟨w5.heap.size, 0, none⟩) 1 1) [1] :=
    (show OwnInts _ w5.heap.size _ [1] from World.ownsRow_lit (e := 3) (size := 1) w5 #[.int .i64 1] 1 (Nat.le_refl _) (by unfold maxLen; omega) rfl).is
  have hap : Apart bk (.slice (some ⟨w5.heap.size, 0, none⟩) 1 1) := by
    intro a n' c' hv _ he
    cases hv
    have he2 : w5.heap.size = bk := he
    omega
  have HFR := Lib.hid (freeOne (d := ⟨2, ⟨1, 0, 0, 0⟩⟩) (hk2.alloc (.cells #[.int .i64 1] 3)) rfl hvi hap)
  clear hd hk2 hK2 hvi hap
  go_wp2_with fail
  refine (HFR.out).mono ?_
  rintro e w6 ⟨err, up2, fr2, L2, rfl, hd, hk2, hK2⟩
  obtain ⟨rfl, rfl, rfl, rfl⟩ := new3 HI1.out rfl rfl hd
  have hB5a : Below w.heap.size w (w5.alloc (.cells #[.int .i64 1] 3)) := HB5.out.alloc HB5.out.size _
  have HB6 := Lib.hid (hB5a.trans (hK2.below h1 h2 hB5a.size))
  have HS2 := Lib.hid (stepsAny hk2 (by simp))
  clear hd hk2 hK2 hB5a
  go_wp2_with fail
  refine (HS2.out).mono ?_
  rintro e w7 ⟨⟨v7, rfl, hv7⟩, hb7⟩
  have HB7 := Lib.hid (HB6.out.trans (hb7.mono HB6.out.size))
  have hvs : IsSteps (w7.alloc (.cells #[.int .i64 0, .int .i64 n] 38)) (.slice (some ⟨w7.heap.size, 0, none⟩) 1 1) [⟨0, n⟩] :=
    (show OwnSteps _ w7.heap.size _ [⟨0, n⟩] from World.ownsRow_lit (e := 38) (size := 2) w7 #[.int .i64 0, .int .i64 n] 1 (Nat.le_refl _) (by unfold maxLen; omega) rfl).is
  have hba : Below w7.heap.size w7 (w7.alloc (.cells #[.int .i64 0, .int .i64 n] 38)) := (Below.refl _ _).alloc (Nat.le_refl _) _
  have HSA := Lib.hid (sameStepsT (hv7.is.below hba) hvs rfl)
  have HB7a := Lib.hid (HB7.out.trans (hba.mono HB7.out.size))
  clear hv7 hb7 hvs hba
  go_wp2_with fail
  refine (HSA.out).mono ?_
  rintro e w8 ⟨rfl, hb8⟩
  have HB8 := Lib.hid (HB7a.out.trans (hb8.mono HB7a.out.size))
  have HSI := Lib.hid (sameIntsT (isInts_nil w8) (isInts_nil w8) rfl)
  clear hb8
  go_wp2_with fail
  refine (HSI.out).mono ?_
  rintro e w9 ⟨rfl, hb9⟩
  have HB9 := Lib.hid (HB8.out.trans (hb9.mono HB8.out.size))
  clear hb9
  go_wp2_with fail
  refine (knownYes _).mono ?_
  rintro e w10 ⟨rfl, hb10⟩
  have HB10 := Lib.hid (HB9.out.trans (hb10.mono HB9.out.size))
  clear hb10
  go_wp2_with fail
  go_ret
  exact ⟨rfl, HB10.out⟩

end Go.Proofs.Ytjknmnmilladlaa
