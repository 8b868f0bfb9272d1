/-
  Walks: the reference's New (f26), and the law's same (f28): the program's book and the reference's say the same.
-/
import Derived.Test.YtjknmnmilladlaaP23
import Derived.Test.YtjknmnmilladlaaP21
namespace Go.Proofs.Ytjknmnmilladlaa
open Go.RowKit

theorem OwnSteps.one (w : World) (a b : Int) : OwnSteps (w.alloc (.cells #[.int .i64 a, .int .i64 b] 38)) w.heap.size (.slice (some ⟨w.heap.size, 0, none⟩) 1 1) [⟨a, b⟩] :=
  World.ownsRow_lit (e := 38) (size := 2) w #[.int .i64 a, .int .i64 b] 1 (Nat.le_refl _) (by unfold maxLen; omega) rfl

set_option maxHeartbeats 8000000 in
set_option maxRecDepth 100000 in
theorem refNew (n : Int) (w : World) (h1 : 1 ≤ n) (h2 : n ≤ 10000) :
    Calls Try.prog 26 #[.int .i64 n] w fun e w' => (∃ a, e = .returned (.tuple #[.agg #[.int .i64 n, .slice (some a) 1 1, .slice none 0 0], .int .i64 0]) ∧ IsSteps w' (.slice (some a) 1 1) [⟨0, n⟩] ∧ ∀ X, X < w.heap.size → Apart X (.slice (some a) 1 1)) ∧ Below w.heap.size w w' := by
  have d1 : decide (n < 1) = false := by simp; omega
  have d2 : decide ((10000 : Int) < n) = false := by simp; omega
  have how := OwnSteps.one (w.alloc (.cells #[.int .i64 n, .slice (some ⟨w.heap.size + 1, 0, none⟩) 1 1, .slice none 0 0] 59)) 0 n
  have hsz : (w.alloc (.cells #[.int .i64 n, .slice (some ⟨w.heap.size + 1, 0, none⟩) 1 1, .slice none 0 0] 59)).heap.size = w.heap.size + 1 := by simp
  rw [hsz] at how
  have HOW := Lib.hid how
  have HB : Hid (Below w.heap.size w ((w.alloc (.cells #[.int .i64 n, .slice (some ⟨w.heap.size + 1, 0, none⟩) 1 1, .slice none 0 0] 59)).alloc (.cells #[.int .i64 0, .int .i64 n] 38))) := Lib.hid (((Below.refl _ _).alloc (Nat.le_refl _) _).alloc (by simp) _)
  clear how hsz h1 h2
  go_enter Try.func26, Try.ntmps26
  go_wp2_with fail
  refine bodyPost_ret (v := .tuple #[.agg #[.int .i64 n, .slice (some ⟨w.heap.size + 1, 0, none⟩) 1 1, .slice none 0 0], .int .i64 0]) (by simp [results, Try.f26]; go_simp) rfl ?_
  exact ⟨⟨_, rfl, HOW.out.is, fun X hX => Apart.own HOW.out (by omega)⟩, HB.out⟩

set_option maxHeartbeats 16000000 in
set_option maxRecDepth 100000 in
theorem sameYes {w : World} {bk bm : Nat} {n : Int} {up fr : List Step} {L S : List Slot} {vu vs : Value} (hk : BookIs w bk bm n up fr L) (hI : Inv n up fr L) (hM : ∀ x ∈ L, x.id ≤ 9223372036854775807) (hS : SortedOf L S) (hu : IsSteps w vu up) (hs : IsSlots w vs S) :
    Calls Try.prog 28 #[.pointer (some ⟨bk, 0, none⟩), .agg #[.int .i64 n, vu, vs]] w (Yes w) := by
  have hf := hI.fine hS.1
  obtain ⟨au, cu, hvu, _, _⟩ := hu.shape
  obtain ⟨az, cz, hvs, _, _⟩ := hs.shape
  generalize up.length = mu at hvu
  generalize S.length = mz at hvs
  obtain ⟨w1, hw1⟩ : ∃ w1, w1 = w.alloc (.cells #[.int .i64 n, vu, vs] 59) := ⟨_, rfl⟩
  obtain ⟨hb1, hsz, k0, k1, k2, _⟩ := made59 hw1
  have HSL := Lib.hid (fun (wx : World) (hb : Below w1.heap.size w1 wx) => slotsAny ((hk.below hb1).below hb) (fun s hs => ⟨(right_iff.1 (hI.rt s hs)).1, hM s hs⟩) hI.len)
  have HST := Lib.hid (fun (wx : World) (hb : Below w1.heap.size w1 wx) => stepsAny ((hk.below hb1).below hb) (by have := hI.flen; omega))
  have HRS := Lib.hid (fun (wx : World) (hb : Below w1.heap.size w1 wx) => refSteps (w := wx) ((hu.below hb1).below hb) ((hs.below hb1).below hb) hf)
  have HSS := Lib.hid (hs.below hb1)
  have HEQ := Lib.hid (fun (S2 : List Slot) (h : SortedOf L S2) => SortedOf.unique h hS hI.ids)
  have HFR := Lib.hid (fun (ts : List Int) hr hm => steps_are hI hS.1 (ts := ts) hr hm (fun t ht => hf.times t ((hm t).1 ht)))
  have hX : w.heap.size < w1.heap.size := by omega
  have HB1 := Lib.hid hb1
  have HW1 := Lib.hid hw1
  subst hvu
  subst hvs
  clear hk hI hM hS hu hs hf hb1 hsz hw1
  go_enter Try.func28, Try.ntmps28
  go_wp2_with fail
  rw [← HW1.out]
  go_region_held3 (fun w' => w'.cell? ⟨w.heap.size, 0, none⟩ = some (.int .i64 n) ∧ w'.cell? ⟨w.heap.size, 1, none⟩ = some (.slice au mu cu) ∧ w'.cell? ⟨w.heap.size, 2, none⟩ = some (.slice az mz cz)) (first | go_keep | exact ⟨q0, q1, q2⟩ | exact ⟨o0, o1, o2⟩ | exact ⟨n0, n1, n2⟩ | exact ⟨m0, m1, m2⟩) ((first | (go_at_call 22; refine (HSL.out _ (by exact (Below.refl _ _).drew)).mono ?_; rintro e w2 ⟨v2, S2, rfl, hso, hv2, hb2⟩; have m0 := (hb2.cell (p := ⟨w.heap.size, 0, none⟩) hX).trans k0; have m1 := (hb2.cell (p := ⟨w.heap.size, 1, none⟩) hX).trans k1; have m2 := (hb2.cell (p := ⟨w.heap.size, 2, none⟩) hX).trans k2; have HB2 := Lib.hid ((Below.refl w1.heap.size w1).drew.trans hb2); have HV2 := Lib.hid hv2.is; have HE2 := Lib.hid (HEQ.out _ hso); clear hb2 hv2 hso) | (go_at_call 25; refine (sameSlotsT HV2.out (HSS.out.below HB2.out) HE2.out).mono ?_; rintro e w3 ⟨rfl, hb3⟩; have HB3 := Lib.hid (HB2.out.trans (hb3.mono HB2.out.size)); have n0 := (HB3.out.cell (p := ⟨w.heap.size, 0, none⟩) hX).trans k0; have n1 := (HB3.out.cell (p := ⟨w.heap.size, 1, none⟩) hX).trans k1; have n2 := (HB3.out.cell (p := ⟨w.heap.size, 2, none⟩) hX).trans k2; clear hb3) | (go_at_call 14; refine (HST.out _ HB3.out).mono ?_; rintro e w4 ⟨⟨v4, rfl, hv4⟩, hb4⟩; have HB4 := Lib.hid (HB3.out.trans (hb4.mono HB3.out.size)); have o0 := (HB4.out.cell (p := ⟨w.heap.size, 0, none⟩) hX).trans k0; have o1 := (HB4.out.cell (p := ⟨w.heap.size, 1, none⟩) hX).trans k1; have o2 := (HB4.out.cell (p := ⟨w.heap.size, 2, none⟩) hX).trans k2; have HV4 := Lib.hid hv4.is; clear hb4 hv4) | (go_at_call 56; refine (HRS.out _ HB4.out).mono ?_; rintro e w5 ⟨⟨v5, ts, rfl, hv5, hr5, hm5, hl5⟩, hb5⟩; have HB5 := Lib.hid (HB4.out.trans (hb5.mono HB4.out.size)); have q0 := (HB5.out.cell (p := ⟨w.heap.size, 0, none⟩) hX).trans k0; have q1 := (HB5.out.cell (p := ⟨w.heap.size, 1, none⟩) hX).trans k1; have q2 := (HB5.out.cell (p := ⟨w.heap.size, 2, none⟩) hX).trans k2; have HV5 := Lib.hid hv5.is; have HE5 := Lib.hid (HFR.out ts hr5 hm5).symm; have HV4b := Lib.hid (HV4.out.below hb5); clear hb5 hv5 hr5 hm5 hl5) | (go_at_call 16; refine (sameStepsT HV4b.out HV5.out HE5.out).mono ?_; rintro e w6 ⟨rfl, hb6⟩; have HB6 := Lib.hid (HB5.out.trans (hb6.mono HB5.out.size)); have p0 := (HB6.out.cell (p := ⟨w.heap.size, 0, none⟩) hX).trans k0; have p1 := (HB6.out.cell (p := ⟨w.heap.size, 1, none⟩) hX).trans k1; have p2 := (HB6.out.cell (p := ⟨w.heap.size, 2, none⟩) hX).trans k2; clear hb6)))
  all_goals
    go_wp2_with fail
    go_ret
    exact ⟨rfl, HB1.out.trans (HB6.out.mono HB1.out.size)⟩

end Go.Proofs.Ytjknmnmilladlaa
