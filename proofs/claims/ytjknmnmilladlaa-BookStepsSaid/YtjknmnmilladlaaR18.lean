/-
  Walk of the reference (layer 11): Step, a slot that is there: Move. (Printed by gen27.py.)
-/
import Derived.Test.YtjknmnmilladlaaR17
namespace Go.Proofs.Ytjknmnmilladlaa
open Go.RowKit

set_option maxHeartbeats 8000000 in
set_option maxRecDepth 100000 in
theorem step4a {w : World} {vu vs : Value} {n : Int} {up : List Step} {S : List Slot} (hu : IsSteps w vu up) (hs : IsSlots w vs S) (hno : ∀ m c, vs = .slice none m c → c = m) (hf : Fine n up S) (hul : up.length ≤ 1000) (hS : S.Pairwise fun a b => a.id < b.id) (d : Do) (hx : ∃ x ∈ S, x.id = d.s.id) (d1 : d.kind ≠ 1) (d2 : d.kind ≠ 2) (d3 : d.kind ≠ 3) (d5 : d.kind ≠ 5) (ht : isT d.s.frm = false) :
    Calls Try.prog 27 #[.agg #[.int .i64 n, vu, vs], doV d] w (RPost w n vu vs up S d) := by
  obtain ⟨kd, id, frm, till, k⟩ := d
  obtain ⟨au, cu, hvu, _, _⟩ := hu.shape
  obtain ⟨az, cz, hvs, _, _⟩ := hs.shape
  unfold doV
  simp only at *
  have e5 : (kd == 5) = false := by simpa using d5
  have e1 : (kd == 1) = false := by simpa using d1
  have e2 : (kd == 2) = false := by simpa using d2
  have e3 : (kd == 3) = false := by simpa using d3
  have hau : Apart (w.heap.size + 1 + 1) vu := Apart.of_lt hu (by omega)
  have hav : Apart (w.heap.size + 1 + 1) vs := Apart.slots hs (by omega)
  obtain ⟨w1, hw1⟩ : ∃ w1, w1 = (((w.alloc (.cells #[.int .i64 n, vu, vs] 59)).alloc (.cells #[.int .i64 kd, .int .i64 id, .int .i64 frm, .int .i64 till, .int .i64 k] 46)).alloc (.cells #[.int .i64 0, .slice none 0 0, .slice none 0 0] 59)) := ⟨_, rfl⟩
  obtain ⟨hBB, hsz, ⟨t0, t1, t2⟩, ⟨x0, x1, x2, x3, x4⟩, ⟨r0, r1, r2⟩, fz⟩ := pre46 hw1
  have HT := Lib.hid (refFind (w := w1) (vu := vu) n (hs.below hBB) hf.l id)
  have HBB := Lib.hid hBB
  have HSZ := Lib.hid hsz
  have HU := Lib.hid (hu.below hBB)
  have HV := Lib.hid (hs.below hBB)
  have HNO := Lib.hid hno
  have HF := Lib.hid hf
  have HUL := Lib.hid hul
  have HS := Lib.hid hS
  have HAU := Lib.hid hau
  have HAV := Lib.hid hav
  have HFZ := Lib.hid fz
  have HR := Lib.hid (And.intro r0 (And.intro r1 r2))
  have HC := Lib.hid (And.intro t0 (And.intro t1 t2))
  have HX := Lib.hid (And.intro x0 (And.intro x1 (And.intro x2 (And.intro x3 x4))))
  subst hvu
  subst hvs
  clear hu hs hno hf hul hS hBB hsz fz r0 r1 r2 hau hav
  rw [hw1] at t0 t1 t2 x0 x1 x2 x3 x4
  have HW1 := Lib.hid hw1
  clear hw1
  go_enter Try.func27, Try.ntmps27
  go_wp2_with fail
  rw [← HW1.out]
  clear t0 t1 t2 x0 x1 x2 x3 x4
  refine (HT.out).mono ?_
  rintro e w2 ⟨⟨fk, rfl, hfi⟩, hb2⟩
  have hs1 := HSZ.out
  have hR1 : w.heap.size + 1 + 1 < w1.heap.size := by omega
  obtain ⟨t0, t1, t2⟩ := HC.out
  obtain ⟨x0, x1, x2, x3, x4⟩ := HX.out
  have t0 := (hb2.cell (p := ⟨w.heap.size, 0, none⟩) (by simp only; omega)).trans t0
  have t1 := (hb2.cell (p := ⟨w.heap.size, 1, none⟩) (by simp only; omega)).trans t1
  have t2 := (hb2.cell (p := ⟨w.heap.size, 2, none⟩) (by simp only; omega)).trans t2
  have x0 := (hb2.cell (p := ⟨w.heap.size + 1, 0, none⟩) (by simp only; omega)).trans x0
  have x1 := (hb2.cell (p := ⟨w.heap.size + 1, 1, none⟩) (by simp only; omega)).trans x1
  have x2 := (hb2.cell (p := ⟨w.heap.size + 1, 2, none⟩) (by simp only; omega)).trans x2
  have x3 := (hb2.cell (p := ⟨w.heap.size + 1, 3, none⟩) (by simp only; omega)).trans x3
  have x4 := (hb2.cell (p := ⟨w.heap.size + 1, 4, none⟩) (by simp only; omega)).trans x4
  have hsz2 := hb2.size
  have HB2 := Lib.hid hb2
  have HU2 := Lib.hid (HU.out.below hb2)
  have HV2 := Lib.hid (HV.out.below hb2)
  have HFI := Lib.hid hfi
  clear hb2 hfi hs1
  obtain ⟨q, rfl, hql, hqi⟩ := HFI.out.some hx
  obtain ⟨bS, oS, cS, hvs2, p1, p2, p3, CS⟩ := slotAtV HV2.out (Nat.lt_of_le_of_lt (Nat.zero_le _) hql)
  injection hvs2 with hv1 hv2 hv3
  subst hv1
  subst hv3
  obtain ⟨y0, y1, y2, y3, eS, n0, n1, n2, n3⟩ := CS q hql
  have hqq : (q : Int) < S.length := by omega
  have dq : decide ((q : Int) < 0) = false := by simp
  have hy0 : y0 = id := by rw [← hqi, eS]
  subst hy0
  have hmem : (⟨y0, y1, y2, y3⟩ : Slot) ∈ S := by rw [← eS]; exact getD_mem hql
  have hrs := right_iff.1 (HF.out.r _ hmem)
  simp only at hrs
  have hm29 := made29 (w := w2) (a := .int .i64 y0) (b := .int .i64 y1) (c := .int .i64 y2) (d := .int .i64 y3) rfl
  obtain ⟨hb3, hs3, ⟨v0, v1, v2, v3⟩, vf⟩ := hm29
  have hiat := ids_at HS.out hql
  rw [hqi] at hiat
  have HWO := Lib.hid (refWithout (vu := .slice au up.length cu) n ⟨_, _, _, rfl⟩ (HV2.out.below hb3) HF.out.l y0 hql hiat)
  have t0 := cell_old (.cells #[.int .i64 y0, .int .i64 y1, .int .i64 y2, .int .i64 y3] 29) t0
  have t1 := cell_old (.cells #[.int .i64 y0, .int .i64 y1, .int .i64 y2, .int .i64 y3] 29) t1
  have t2 := cell_old (.cells #[.int .i64 y0, .int .i64 y1, .int .i64 y2, .int .i64 y3] 29) t2
  have HM := Lib.hid (And.intro hmem hrs)
  have HKEEP := Lib.hid (And.intro t0 (And.intro t1 t2))
  have HXX := Lib.hid (And.intro (cell_old (.cells #[.int .i64 y0, .int .i64 y1, .int .i64 y2, .int .i64 y3] 29) x0) (And.intro (cell_old (.cells #[.int .i64 y0, .int .i64 y1, .int .i64 y2, .int .i64 y3] 29) x2) (cell_old (.cells #[.int .i64 y0, .int .i64 y1, .int .i64 y2, .int .i64 y3] 29) x3)))
  have HVV := Lib.hid (And.intro v0 (And.intro v1 (And.intro v2 v3)))
  have HVF := Lib.hid vf
  have hsB : w.heap.size + 1 + 1 < w2.heap.size := by omega
  have HB3 := Lib.hid hb3
  have HS3 := Lib.hid hs3
  clear hx CS eS hmem hrs hiat hqi v0 v1 v2 v3 vf hb3 hs3
  go_wp2_with fail
  refine (HWO.out).mono ?_
  obtain ⟨w3, hw3⟩ : ∃ w3, w3 = w2.alloc (.cells #[.int .i64 y0, .int .i64 y1, .int .i64 y2, .int .i64 y3] 29) := ⟨_, rfl⟩
  rw [← hw3] at HKEEP HXX HVV HVF HB3 HS3 ⊢
  clear hw3 t0 t1 t2 x0 x1 x2 x3 x4 n0 n1 n2 n3
  rintro e w4 ⟨⟨vw, rfl, hov⟩, hb4⟩
  obtain ⟨av, cv, rfl, _, _⟩ := hov.is.shape
  obtain ⟨hm1, hm2, z0, z1, z2, zf⟩ := made59 (w := w4) (n := n) (vu := .slice au up.length cu) (vs := .slice av (without S y0).length cv) rfl
  have hs3 := HS3.out
  have h35 : Below w3.heap.size w3 (w4.alloc (.cells #[.int .i64 n, .slice au up.length cu, .slice av (without S y0).length cv] 59)) := hb4.trans (hm1.mono hb4.size)
  obtain ⟨t0, t1, t2⟩ := HKEEP.out
  obtain ⟨x0, x2, x3⟩ := HXX.out
  obtain ⟨v0, v1, v2, v3⟩ := HVV.out
  have t0 := (h35.cell (p := ⟨w.heap.size, 0, none⟩) (by simp only; omega)).trans t0
  have t1 := (h35.cell (p := ⟨w.heap.size, 1, none⟩) (by simp only; omega)).trans t1
  have t2 := (h35.cell (p := ⟨w.heap.size, 2, none⟩) (by simp only; omega)).trans t2
  have x0 := (h35.cell (p := ⟨w.heap.size + 1, 0, none⟩) (by simp only; omega)).trans x0
  have x2 := (h35.cell (p := ⟨w.heap.size + 1, 2, none⟩) (by simp only; omega)).trans x2
  have x3 := (h35.cell (p := ⟨w.heap.size + 1, 3, none⟩) (by simp only; omega)).trans x3
  have v0 := (h35.cell (p := ⟨w2.heap.size, 0, none⟩) (by simp only; omega)).trans v0
  have v1 := (h35.cell (p := ⟨w2.heap.size, 1, none⟩) (by simp only; omega)).trans v1
  have v2 := (h35.cell (p := ⟨w2.heap.size, 2, none⟩) (by simp only; omega)).trans v2
  have v3 := (h35.cell (p := ⟨w2.heap.size, 3, none⟩) (by simp only; omega)).trans v3
  have hlw : w2.heap.size < w4.heap.size := by have := hb4.size; omega
  have HOV : Hid (OwnSlots (w4.alloc (.cells #[.int .i64 n, .slice au up.length cu, .slice av (without S y0).length cv] 59)) w3.heap.size (.slice av (without S y0).length cv) (without S y0)) := Lib.hid (owns_below hov hm1)
  have HVF5 : Hid (∀ o, (w4.alloc (.cells #[.int .i64 n, .slice au up.length cu, .slice av (without S y0).length cv] 59)).frozen? ⟨w2.heap.size, o, none⟩ = false) := Lib.hid (fun o => (h35.frozen (p := ⟨w2.heap.size, o, none⟩) (by simp only; omega)).trans (HVF.out o))
  have HB15 : Hid (Below w1.heap.size w1 (w4.alloc (.cells #[.int .i64 n, .slice au up.length cu, .slice av (without S y0).length cv] 59))) := Lib.hid (HB2.out.trans ((HB3.out.trans (h35.mono (by omega))).mono HB2.out.size))
  have HS3b := Lib.hid hs3
  have HM2 := Lib.hid hm2
  clear hov hb4 hm1 h35 zf hs3 hm2
  have HKD := Lib.hid (And.intro d1 (And.intro d2 (And.intro d3 d5)))
  have KT := Lib.hid ht
  have HST := Lib.hid (RefStep.moveTime (n := n) (up := up) (S := S) (d := ⟨kd, ⟨y0, frm, till, k⟩⟩) (s := ⟨y0, y1, y2, y3⟩) HKD.out.1 HKD.out.2.1 HKD.out.2.2.1 HKD.out.2.2.2 HM.out.1 rfl ht)
  clear ht d1 d2 d3 d5
  go_wp2_with fail
  obtain ⟨w5, hw5⟩ : ∃ w5, w5 = w4.alloc (.cells #[.int .i64 n, .slice au up.length cu, .slice av (without S y0).length cv] 59) := ⟨_, rfl⟩
  rw [← hw5] at t0 t1 t2 x0 x2 x3 v0 v1 v2 v3 z0 z1 z2 HOV HVF5 HB15 HM2 ⊢
  clear hw5
  refine (refIs _ _ _ KT.out).mono ?_
  rintro e w6 ⟨rfl, rfl⟩
  have hbr : Below w1.heap.size w1 w5 := HB15.out
  obtain ⟨r0, r1, r2⟩ := HR.out
  have r0 := (hbr.cell (p := ⟨w.heap.size + 1 + 1, 0, none⟩) hR1).trans r0
  have r1 := (hbr.cell (p := ⟨w.heap.size + 1 + 1, 1, none⟩) hR1).trans r1
  have r2 := (hbr.cell (p := ⟨w.heap.size + 1 + 1, 2, none⟩) hR1).trans r2
  have f0 := (hbr.frozen (p := ⟨w.heap.size + 1 + 1, 0, none⟩) hR1).trans (HFZ.out 0)
  have f1 := (hbr.frozen (p := ⟨w.heap.size + 1 + 1, 1, none⟩) hR1).trans (HFZ.out 1)
  have f2 := (hbr.frozen (p := ⟨w.heap.size + 1 + 1, 2, none⟩) hR1).trans (HFZ.out 2)
  have HBR := Lib.hid hbr
  clear hbr
  go_wp2_with fail
  obtain ⟨s0, s1, s2⟩ := set3 (a := .int .i64 n) (b := .slice au up.length cu) (c := .slice (some ⟨bS, oS, none⟩) S.length cz) r0 r1 r2
  refine bodyPost_ret (v := .tuple #[.agg #[.int .i64 n, .slice au up.length cu, .slice (some ⟨bS, oS, none⟩) S.length cz], .slice none 0 0, .int .i64 2]) (by simp [results, Try.f27]; go_simp) rfl ?_
  exact ⟨_, _, _, [], 2, up, S, rfl, IsRow.set3 (HU.out.below HBR.out) HAU.out, IsRow.set3 (HV.out.below HBR.out) HAV.out, HNO.out, isInts_nil _, HST.out, below_set3 (HBB.out.trans (HBR.out.mono HBB.out.size)) (Nat.le_trans (Nat.le_succ _) (Nat.le_succ _)), .inl rfl, .inl rfl, fun X _ => apart_nil X⟩

set_option maxHeartbeats 8000000 in
set_option maxRecDepth 100000 in
theorem step4b {w : World} {vu vs : Value} {n : Int} {up : List Step} {S : List Slot} (hu : IsSteps w vu up) (hs : IsSlots w vs S) (hno : ∀ m c, vs = .slice none m c → c = m) (hf : Fine n up S) (hul : up.length ≤ 1000) (hS : S.Pairwise fun a b => a.id < b.id) (d : Do) (hx : ∃ x ∈ S, x.id = d.s.id) (d1 : d.kind ≠ 1) (d2 : d.kind ≠ 2) (d3 : d.kind ≠ 3) (d5 : d.kind ≠ 5) (ht : isT d.s.frm = true) :
    Calls Try.prog 27 #[.agg #[.int .i64 n, vu, vs], doV d] w (RPost w n vu vs up S d) := by
  obtain ⟨kd, id, frm, till, k⟩ := d
  obtain ⟨au, cu, hvu, _, _⟩ := hu.shape
  obtain ⟨az, cz, hvs, _, _⟩ := hs.shape
  unfold doV
  simp only at *
  have e5 : (kd == 5) = false := by simpa using d5
  have e1 : (kd == 1) = false := by simpa using d1
  have e2 : (kd == 2) = false := by simpa using d2
  have e3 : (kd == 3) = false := by simpa using d3
  have hau : Apart (w.heap.size + 1 + 1) vu := Apart.of_lt hu (by omega)
  have hav : Apart (w.heap.size + 1 + 1) vs := Apart.slots hs (by omega)
  obtain ⟨w1, hw1⟩ : ∃ w1, w1 = (((w.alloc (.cells #[.int .i64 n, vu, vs] 59)).alloc (.cells #[.int .i64 kd, .int .i64 id, .int .i64 frm, .int .i64 till, .int .i64 k] 46)).alloc (.cells #[.int .i64 0, .slice none 0 0, .slice none 0 0] 59)) := ⟨_, rfl⟩
  obtain ⟨hBB, hsz, ⟨t0, t1, t2⟩, ⟨x0, x1, x2, x3, x4⟩, ⟨r0, r1, r2⟩, fz⟩ := pre46 hw1
  have HT := Lib.hid (refFind (w := w1) (vu := vu) n (hs.below hBB) hf.l id)
  have HBB := Lib.hid hBB
  have HSZ := Lib.hid hsz
  have HU := Lib.hid (hu.below hBB)
  have HV := Lib.hid (hs.below hBB)
  have HNO := Lib.hid hno
  have HF := Lib.hid hf
  have HUL := Lib.hid hul
  have HS := Lib.hid hS
  have HAU := Lib.hid hau
  have HAV := Lib.hid hav
  have HFZ := Lib.hid fz
  have HR := Lib.hid (And.intro r0 (And.intro r1 r2))
  have HC := Lib.hid (And.intro t0 (And.intro t1 t2))
  have HX := Lib.hid (And.intro x0 (And.intro x1 (And.intro x2 (And.intro x3 x4))))
  subst hvu
  subst hvs
  clear hu hs hno hf hul hS hBB hsz fz r0 r1 r2 hau hav
  rw [hw1] at t0 t1 t2 x0 x1 x2 x3 x4
  have HW1 := Lib.hid hw1
  clear hw1
  go_enter Try.func27, Try.ntmps27
  go_wp2_with fail
  rw [← HW1.out]
  clear t0 t1 t2 x0 x1 x2 x3 x4
  refine (HT.out).mono ?_
  rintro e w2 ⟨⟨fk, rfl, hfi⟩, hb2⟩
  have hs1 := HSZ.out
  have hR1 : w.heap.size + 1 + 1 < w1.heap.size := by omega
  obtain ⟨t0, t1, t2⟩ := HC.out
  obtain ⟨x0, x1, x2, x3, x4⟩ := HX.out
  have t0 := (hb2.cell (p := ⟨w.heap.size, 0, none⟩) (by simp only; omega)).trans t0
  have t1 := (hb2.cell (p := ⟨w.heap.size, 1, none⟩) (by simp only; omega)).trans t1
  have t2 := (hb2.cell (p := ⟨w.heap.size, 2, none⟩) (by simp only; omega)).trans t2
  have x0 := (hb2.cell (p := ⟨w.heap.size + 1, 0, none⟩) (by simp only; omega)).trans x0
  have x1 := (hb2.cell (p := ⟨w.heap.size + 1, 1, none⟩) (by simp only; omega)).trans x1
  have x2 := (hb2.cell (p := ⟨w.heap.size + 1, 2, none⟩) (by simp only; omega)).trans x2
  have x3 := (hb2.cell (p := ⟨w.heap.size + 1, 3, none⟩) (by simp only; omega)).trans x3
  have x4 := (hb2.cell (p := ⟨w.heap.size + 1, 4, none⟩) (by simp only; omega)).trans x4
  have hsz2 := hb2.size
  have HB2 := Lib.hid hb2
  have HU2 := Lib.hid (HU.out.below hb2)
  have HV2 := Lib.hid (HV.out.below hb2)
  have HFI := Lib.hid hfi
  clear hb2 hfi hs1
  obtain ⟨q, rfl, hql, hqi⟩ := HFI.out.some hx
  obtain ⟨bS, oS, cS, hvs2, p1, p2, p3, CS⟩ := slotAtV HV2.out (Nat.lt_of_le_of_lt (Nat.zero_le _) hql)
  injection hvs2 with hv1 hv2 hv3
  subst hv1
  subst hv3
  obtain ⟨y0, y1, y2, y3, eS, n0, n1, n2, n3⟩ := CS q hql
  have hqq : (q : Int) < S.length := by omega
  have dq : decide ((q : Int) < 0) = false := by simp
  have hy0 : y0 = id := by rw [← hqi, eS]
  subst hy0
  have hmem : (⟨y0, y1, y2, y3⟩ : Slot) ∈ S := by rw [← eS]; exact getD_mem hql
  have hrs := right_iff.1 (HF.out.r _ hmem)
  simp only at hrs
  have hm29 := made29 (w := w2) (a := .int .i64 y0) (b := .int .i64 y1) (c := .int .i64 y2) (d := .int .i64 y3) rfl
  obtain ⟨hb3, hs3, ⟨v0, v1, v2, v3⟩, vf⟩ := hm29
  have hiat := ids_at HS.out hql
  rw [hqi] at hiat
  have HWO := Lib.hid (refWithout (vu := .slice au up.length cu) n ⟨_, _, _, rfl⟩ (HV2.out.below hb3) HF.out.l y0 hql hiat)
  have t0 := cell_old (.cells #[.int .i64 y0, .int .i64 y1, .int .i64 y2, .int .i64 y3] 29) t0
  have t1 := cell_old (.cells #[.int .i64 y0, .int .i64 y1, .int .i64 y2, .int .i64 y3] 29) t1
  have t2 := cell_old (.cells #[.int .i64 y0, .int .i64 y1, .int .i64 y2, .int .i64 y3] 29) t2
  have HM := Lib.hid (And.intro hmem hrs)
  have HKEEP := Lib.hid (And.intro t0 (And.intro t1 t2))
  have HXX := Lib.hid (And.intro (cell_old (.cells #[.int .i64 y0, .int .i64 y1, .int .i64 y2, .int .i64 y3] 29) x0) (And.intro (cell_old (.cells #[.int .i64 y0, .int .i64 y1, .int .i64 y2, .int .i64 y3] 29) x2) (cell_old (.cells #[.int .i64 y0, .int .i64 y1, .int .i64 y2, .int .i64 y3] 29) x3)))
  have HVV := Lib.hid (And.intro v0 (And.intro v1 (And.intro v2 v3)))
  have HVF := Lib.hid vf
  have hsB : w.heap.size + 1 + 1 < w2.heap.size := by omega
  have HB3 := Lib.hid hb3
  have HS3 := Lib.hid hs3
  clear hx CS eS hmem hrs hiat hqi v0 v1 v2 v3 vf hb3 hs3
  go_wp2_with fail
  refine (HWO.out).mono ?_
  obtain ⟨w3, hw3⟩ : ∃ w3, w3 = w2.alloc (.cells #[.int .i64 y0, .int .i64 y1, .int .i64 y2, .int .i64 y3] 29) := ⟨_, rfl⟩
  rw [← hw3] at HKEEP HXX HVV HVF HB3 HS3 ⊢
  clear hw3 t0 t1 t2 x0 x1 x2 x3 x4 n0 n1 n2 n3
  rintro e w4 ⟨⟨vw, rfl, hov⟩, hb4⟩
  obtain ⟨av, cv, rfl, _, _⟩ := hov.is.shape
  obtain ⟨hm1, hm2, z0, z1, z2, zf⟩ := made59 (w := w4) (n := n) (vu := .slice au up.length cu) (vs := .slice av (without S y0).length cv) rfl
  have hs3 := HS3.out
  have h35 : Below w3.heap.size w3 (w4.alloc (.cells #[.int .i64 n, .slice au up.length cu, .slice av (without S y0).length cv] 59)) := hb4.trans (hm1.mono hb4.size)
  obtain ⟨t0, t1, t2⟩ := HKEEP.out
  obtain ⟨x0, x2, x3⟩ := HXX.out
  obtain ⟨v0, v1, v2, v3⟩ := HVV.out
  have t0 := (h35.cell (p := ⟨w.heap.size, 0, none⟩) (by simp only; omega)).trans t0
  have t1 := (h35.cell (p := ⟨w.heap.size, 1, none⟩) (by simp only; omega)).trans t1
  have t2 := (h35.cell (p := ⟨w.heap.size, 2, none⟩) (by simp only; omega)).trans t2
  have x0 := (h35.cell (p := ⟨w.heap.size + 1, 0, none⟩) (by simp only; omega)).trans x0
  have x2 := (h35.cell (p := ⟨w.heap.size + 1, 2, none⟩) (by simp only; omega)).trans x2
  have x3 := (h35.cell (p := ⟨w.heap.size + 1, 3, none⟩) (by simp only; omega)).trans x3
  have v0 := (h35.cell (p := ⟨w2.heap.size, 0, none⟩) (by simp only; omega)).trans v0
  have v1 := (h35.cell (p := ⟨w2.heap.size, 1, none⟩) (by simp only; omega)).trans v1
  have v2 := (h35.cell (p := ⟨w2.heap.size, 2, none⟩) (by simp only; omega)).trans v2
  have v3 := (h35.cell (p := ⟨w2.heap.size, 3, none⟩) (by simp only; omega)).trans v3
  have hlw : w2.heap.size < w4.heap.size := by have := hb4.size; omega
  have HOV : Hid (OwnSlots (w4.alloc (.cells #[.int .i64 n, .slice au up.length cu, .slice av (without S y0).length cv] 59)) w3.heap.size (.slice av (without S y0).length cv) (without S y0)) := Lib.hid (owns_below hov hm1)
  have HVF5 : Hid (∀ o, (w4.alloc (.cells #[.int .i64 n, .slice au up.length cu, .slice av (without S y0).length cv] 59)).frozen? ⟨w2.heap.size, o, none⟩ = false) := Lib.hid (fun o => (h35.frozen (p := ⟨w2.heap.size, o, none⟩) (by simp only; omega)).trans (HVF.out o))
  have HB15 : Hid (Below w1.heap.size w1 (w4.alloc (.cells #[.int .i64 n, .slice au up.length cu, .slice av (without S y0).length cv] 59))) := Lib.hid (HB2.out.trans ((HB3.out.trans (h35.mono (by omega))).mono HB2.out.size))
  have HS3b := Lib.hid hs3
  have HM2 := Lib.hid hm2
  clear hov hb4 hm1 h35 zf hs3 hm2
  have HKD := Lib.hid (And.intro d1 (And.intro d2 (And.intro d3 d5)))
  have KT := Lib.hid ht
  clear ht d1 d2 d3 d5
  go_wp2_with fail
  obtain ⟨w5, hw5⟩ : ∃ w5, w5 = w4.alloc (.cells #[.int .i64 n, .slice au up.length cu, .slice av (without S y0).length cv] 59) := ⟨_, rfl⟩
  rw [← hw5] at t0 t1 t2 x0 x2 x3 v0 v1 v2 v3 z0 z1 z2 HOV HVF5 HB15 HM2 ⊢
  clear hw5
  refine (refIs _ _ _ KT.out).mono ?_
  rintro e w6 ⟨rfl, rfl⟩
  have h56 : Below w2.heap.size w5 (w5.setCell ⟨w2.heap.size, 2, none⟩ (.int .i64 (frm + y2 - y1))) := (Below.refl _ _).setCell (p := ⟨w2.heap.size, 2, none⟩) (Nat.le_refl _) _
  have h57 : Below w2.heap.size w5 ((w5.setCell ⟨w2.heap.size, 2, none⟩ (.int .i64 (frm + y2 - y1))).setCell ⟨w2.heap.size, 1, none⟩ (.int .i64 frm)) := h56.setCell (p := ⟨w2.heap.size, 1, none⟩) (Nat.le_refl _) _
  have hne : w4.heap.size ≠ w2.heap.size := by omega
  have hf2 := HVF5.out 2
  have hf1 : (w5.setCell ⟨w2.heap.size, 2, none⟩ (.int .i64 (frm + y2 - y1))).frozen? ⟨w2.heap.size, 1, none⟩ = false := by rw [frozen_set]; exact HVF5.out 1
  have g1 : (w5.setCell ⟨w2.heap.size, 2, none⟩ (.int .i64 (frm + y2 - y1))).cell? ⟨w2.heap.size, 1, none⟩ = some (.int .i64 y1) := (cell_set_other (.inr (by decide))).trans v1
  have x2b := (h56.cell (p := ⟨w.heap.size + 1, 2, none⟩) (by simp only; omega)).trans x2
  have t0b := (h57.cell (p := ⟨w.heap.size, 0, none⟩) (by simp only; omega)).trans t0
  have t1b := (h57.cell (p := ⟨w.heap.size, 1, none⟩) (by simp only; omega)).trans t1
  have t2b := (h57.cell (p := ⟨w.heap.size, 2, none⟩) (by simp only; omega)).trans t2
  have u0 : ((w5.setCell ⟨w2.heap.size, 2, none⟩ (.int .i64 (frm + y2 - y1))).setCell ⟨w2.heap.size, 1, none⟩ (.int .i64 frm)).cell? ⟨w2.heap.size, 0, none⟩ = some (.int .i64 y0) := (cell_set_other (.inr (by decide))).trans ((cell_set_other (.inr (by decide))).trans v0)
  have u1 : ((w5.setCell ⟨w2.heap.size, 2, none⟩ (.int .i64 (frm + y2 - y1))).setCell ⟨w2.heap.size, 1, none⟩ (.int .i64 frm)).cell? ⟨w2.heap.size, 1, none⟩ = some (.int .i64 frm) := cell_set_same g1
  have u2 : ((w5.setCell ⟨w2.heap.size, 2, none⟩ (.int .i64 (frm + y2 - y1))).setCell ⟨w2.heap.size, 1, none⟩ (.int .i64 frm)).cell? ⟨w2.heap.size, 2, none⟩ = some (.int .i64 (frm + y2 - y1)) := (cell_set_other (.inr (by decide))).trans (cell_set_same v2)
  have u3 : ((w5.setCell ⟨w2.heap.size, 2, none⟩ (.int .i64 (frm + y2 - y1))).setCell ⟨w2.heap.size, 1, none⟩ (.int .i64 frm)).cell? ⟨w2.heap.size, 3, none⟩ = some (.int .i64 y3) := (cell_set_other (.inr (by decide))).trans ((cell_set_other (.inr (by decide))).trans v3)
  have s0 : ((w5.setCell ⟨w2.heap.size, 2, none⟩ (.int .i64 (frm + y2 - y1))).setCell ⟨w2.heap.size, 1, none⟩ (.int .i64 frm)).cell? ⟨w4.heap.size, 0, none⟩ = some (.int .i64 n) := (cell_set_other (.inl hne)).trans ((cell_set_other (.inl hne)).trans z0)
  have s1 : ((w5.setCell ⟨w2.heap.size, 2, none⟩ (.int .i64 (frm + y2 - y1))).setCell ⟨w2.heap.size, 1, none⟩ (.int .i64 frm)).cell? ⟨w4.heap.size, 1, none⟩ = some (.slice au up.length cu) := (cell_set_other (.inl hne)).trans ((cell_set_other (.inl hne)).trans z1)
  have s2 : ((w5.setCell ⟨w2.heap.size, 2, none⟩ (.int .i64 (frm + y2 - y1))).setCell ⟨w2.heap.size, 1, none⟩ (.int .i64 frm)).cell? ⟨w4.heap.size, 2, none⟩ = some (.slice av (without S y0).length cv) := (cell_set_other (.inl hne)).trans ((cell_set_other (.inl hne)).trans z2)
  have H16 : Hid (Below w1.heap.size w1 ((w5.setCell ⟨w2.heap.size, 2, none⟩ (.int .i64 (frm + y2 - y1))).setCell ⟨w2.heap.size, 1, none⟩ (.int .i64 frm))) := Lib.hid (HB15.out.trans (h57.mono hsz2))
  have HO6 : Hid (OwnSlots ((w5.setCell ⟨w2.heap.size, 2, none⟩ (.int .i64 (frm + y2 - y1))).setCell ⟨w2.heap.size, 1, none⟩ (.int .i64 frm)) w3.heap.size (.slice av (without S y0).length cv) (without S y0)) := Lib.hid (ownsRow_setCell_below (ownsRow_setCell_below HOV.out (by have := HS3b.out; show w2.heap.size < w3.heap.size; omega) _) (by have := HS3b.out; show w2.heap.size < w3.heap.size; omega) _)
  have hit := isT_iff.1 KT.out
  have hrs := HM.out.2
  have hw1 : IntKind.i64.wrap (frm + y2) = frm + y2 := small_wrap (by omega) (by omega)
  have hw2 : IntKind.i64.wrap (frm + y2 - y1) = frm + y2 - y1 := small_wrap (by omega) (by omega)
  clear h56 h57 hrs hit
  cases hrr : rightOf n ⟨y0, frm, frm + y2 - y1, y3⟩
  · have HST := Lib.hid (RefStep.moveArg (n := n) (up := up) (S := S) (d := ⟨kd, ⟨y0, frm, till, k⟩⟩) (s := ⟨y0, y1, y2, y3⟩) HKD.out.1 HKD.out.2.1 HKD.out.2.2.1 HKD.out.2.2.2 HM.out.1 rfl KT.out hrr)
    have HP := Lib.hid (refRight (w := ((w5.setCell ⟨w2.heap.size, 2, none⟩ (.int .i64 (frm + y2 - y1))).setCell ⟨w2.heap.size, 1, none⟩ (.int .i64 frm))) (vu := .slice au up.length cu) (vs := .slice (some ⟨bS, oS, none⟩) S.length cz) n ⟨y0, frm, frm + y2 - y1, y3⟩)
    rw [hrr] at HP
    go_wp2_with fail
    refine (HP.out).mono ?_
    obtain ⟨w6, hw6⟩ : ∃ w6, w6 = ((w5.setCell ⟨w2.heap.size, 2, none⟩ (.int .i64 (frm + y2 - y1))).setCell ⟨w2.heap.size, 1, none⟩ (.int .i64 frm)) := ⟨_, rfl⟩
    rw [← hw6] at t0b t1b t2b u0 u1 u2 u3 s0 s1 s2 H16 HO6 ⊢
    clear hw6 hf1 g1 x2b hf2 t0 t1 t2 v0 v1 v2 v3 z0 z1 z2 x2 x3 hw1 hw2
    rintro e w7 ⟨rfl, hb7⟩
    have t0 := (hb7.cell (p := ⟨w.heap.size, 0, none⟩) (by have := H16.out.size; simp only; omega)).trans t0b
    have t1 := (hb7.cell (p := ⟨w.heap.size, 1, none⟩) (by have := H16.out.size; simp only; omega)).trans t1b
    have t2 := (hb7.cell (p := ⟨w.heap.size, 2, none⟩) (by have := H16.out.size; simp only; omega)).trans t2b
    have hbr : Below w1.heap.size w1 w7 := H16.out.trans (hb7.mono H16.out.size)
    obtain ⟨r0, r1, r2⟩ := HR.out
    have r0 := (hbr.cell (p := ⟨w.heap.size + 1 + 1, 0, none⟩) hR1).trans r0
    have r1 := (hbr.cell (p := ⟨w.heap.size + 1 + 1, 1, none⟩) hR1).trans r1
    have r2 := (hbr.cell (p := ⟨w.heap.size + 1 + 1, 2, none⟩) hR1).trans r2
    have f0 := (hbr.frozen (p := ⟨w.heap.size + 1 + 1, 0, none⟩) hR1).trans (HFZ.out 0)
    have f1 := (hbr.frozen (p := ⟨w.heap.size + 1 + 1, 1, none⟩) hR1).trans (HFZ.out 1)
    have f2 := (hbr.frozen (p := ⟨w.heap.size + 1 + 1, 2, none⟩) hR1).trans (HFZ.out 2)
    have HBR := Lib.hid hbr
    clear hbr
    clear hb7 u0 u1 u2 u3 s0 s1 s2 t0b t1b t2b
    go_wp2_with fail
    obtain ⟨s0, s1, s2⟩ := set3 (a := .int .i64 n) (b := .slice au up.length cu) (c := .slice (some ⟨bS, oS, none⟩) S.length cz) r0 r1 r2
    refine bodyPost_ret (v := .tuple #[.agg #[.int .i64 n, .slice au up.length cu, .slice (some ⟨bS, oS, none⟩) S.length cz], .slice none 0 0, .int .i64 2]) (by simp [results, Try.f27]; go_simp) rfl ?_
    exact ⟨_, _, _, [], 2, up, S, rfl, IsRow.set3 (HU.out.below HBR.out) HAU.out, IsRow.set3 (HV.out.below HBR.out) HAV.out, HNO.out, isInts_nil _, HST.out, below_set3 (HBB.out.trans (HBR.out.mono HBB.out.size)) (Nat.le_trans (Nat.le_succ _) (Nat.le_succ _)), .inl rfl, .inl rfl, fun X _ => apart_nil X⟩
  · have HRR := Lib.hid hrr
    have HP := Lib.hid (refRight (w := ((w5.setCell ⟨w2.heap.size, 2, none⟩ (.int .i64 (frm + y2 - y1))).setCell ⟨w2.heap.size, 1, none⟩ (.int .i64 frm))) (vu := .slice au up.length cu) (vs := .slice (some ⟨bS, oS, none⟩) S.length cz) n ⟨y0, frm, frm + y2 - y1, y3⟩)
    rw [hrr] at HP
    go_wp2_with fail
    refine (HP.out).mono ?_
    obtain ⟨w6, hw6⟩ : ∃ w6, w6 = ((w5.setCell ⟨w2.heap.size, 2, none⟩ (.int .i64 (frm + y2 - y1))).setCell ⟨w2.heap.size, 1, none⟩ (.int .i64 frm)) := ⟨_, rfl⟩
    rw [← hw6] at t0b t1b t2b u0 u1 u2 u3 s0 s1 s2 H16 HO6 ⊢
    clear hw6 hf1 g1 x2b hf2 t0 t1 t2 v0 v1 v2 v3 z0 z1 z2 x2 x3 hw1 hw2
    rintro e w7 ⟨rfl, hb7⟩
    have h17 : Below w1.heap.size w1 w7 := H16.out.trans (hb7.mono H16.out.size)
    have hs6 : w2.heap.size < w6.heap.size ∧ w4.heap.size < w6.heap.size := ⟨World.block_lt_of_cell? w6 _ u0, World.block_lt_of_cell? w6 _ s0⟩
    have t0 := (hb7.cell (p := ⟨w.heap.size, 0, none⟩) (by have := H16.out.size; simp only; omega)).trans t0b
    have t1 := (hb7.cell (p := ⟨w.heap.size, 1, none⟩) (by have := H16.out.size; simp only; omega)).trans t1b
    have t2 := (hb7.cell (p := ⟨w.heap.size, 2, none⟩) (by have := H16.out.size; simp only; omega)).trans t2b
    have u0 := (hb7.cell (p := ⟨w2.heap.size, 0, none⟩) hs6.1).trans u0
    have u1 := (hb7.cell (p := ⟨w2.heap.size, 1, none⟩) hs6.1).trans u1
    have u2 := (hb7.cell (p := ⟨w2.heap.size, 2, none⟩) hs6.1).trans u2
    have u3 := (hb7.cell (p := ⟨w2.heap.size, 3, none⟩) hs6.1).trans u3
    have s0 := (hb7.cell (p := ⟨w4.heap.size, 0, none⟩) hs6.2).trans s0
    have s1 := (hb7.cell (p := ⟨w4.heap.size, 1, none⟩) hs6.2).trans s1
    have s2 := (hb7.cell (p := ⟨w4.heap.size, 2, none⟩) hs6.2).trans s2
    have ho7 := owns_below HO6.out hb7
    have hlw9 : (without S y0).length < 9000 := by
      have h1 := without_lt HM.out.1
      have h2 := HF.out.l
      simp only at h1
      omega
    have hfw : Fine n up (without S y0) := ⟨HF.out.n2, HF.out.u, Nat.le_of_lt hlw9, fun x hx => HF.out.r x ((without_sub S y0).subset hx)⟩
    have HLY := Lib.hid (refLay (HU.out.below h17) (OwnSlots.is ho7) (OwnSlots.no ho7) hfw hlw9 ⟨y0, frm, frm + y2 - y1, y3⟩ HRR.out)
    have H17 := Lib.hid h17
    clear hb7 t0b t1b t2b ho7 hlw9 hfw h17 hs6 hrr
    go_wp2_with fail
    refine (HLY.out).mono ?_
    rintro e w8 ⟨⟨T, hin, ⟨hrm, v, rfl, hov⟩ | ⟨hrm, rfl⟩⟩, hb8⟩
    · have HST := Lib.hid (RefStep.move (n := n) (up := up) (S := S) (d := ⟨kd, ⟨y0, frm, till, k⟩⟩) (s := ⟨y0, y1, y2, y3⟩) HKD.out.1 HKD.out.2.1 HKD.out.2.2.1 HKD.out.2.2.2 HM.out.1 rfl KT.out HRR.out hin hrm)
      obtain ⟨ax, cx, rfl, _, _⟩ := hov.is.shape
      obtain ⟨hm1, hm2, q0, q1, q2, qf⟩ := made59 (w := w8) (n := n) (vu := .slice au up.length cu) (vs := .slice ax T.length cx) rfl
      have HOX := Lib.hid (OwnSlots.wider (B := w1.heap.size) (owns_below hov hm1 : OwnSlots _ _ _ _) H17.out.size)
      have hbr : Below w1.heap.size w1 (w8.alloc (.cells #[.int .i64 n, .slice au up.length cu, .slice ax T.length cx] 59)) := H17.out.trans ((hb8.trans (hm1.mono hb8.size)).mono H17.out.size)
      obtain ⟨r0, r1, r2⟩ := HR.out
      have r0 := (hbr.cell (p := ⟨w.heap.size + 1 + 1, 0, none⟩) hR1).trans r0
      have r1 := (hbr.cell (p := ⟨w.heap.size + 1 + 1, 1, none⟩) hR1).trans r1
      have r2 := (hbr.cell (p := ⟨w.heap.size + 1 + 1, 2, none⟩) hR1).trans r2
      have f0 := (hbr.frozen (p := ⟨w.heap.size + 1 + 1, 0, none⟩) hR1).trans (HFZ.out 0)
      have f1 := (hbr.frozen (p := ⟨w.heap.size + 1 + 1, 1, none⟩) hR1).trans (HFZ.out 1)
      have f2 := (hbr.frozen (p := ⟨w.heap.size + 1 + 1, 2, none⟩) hR1).trans (HFZ.out 2)
      have HBR := Lib.hid hbr
      clear hbr
      clear t0 t1 t2 u0 u1 u2 u3 s0 s1 s2 hb8 hm1 hm2 qf hin hrm hov
      go_wp2_with fail
      obtain ⟨s0, s1, s2⟩ := set3 (a := .int .i64 n) (b := .slice au up.length cu) (c := .slice ax T.length cx) r0 r1 r2
      refine bodyPost_ret (v := .tuple #[.agg #[.int .i64 n, .slice au up.length cu, .slice ax T.length cx], .slice none 0 0, .int .i64 0]) (by simp [results, Try.f27]; go_simp) rfl ?_
      exact ⟨_, _, _, [], 0, up, T, rfl, IsRow.set3 (HU.out.below HBR.out) HAU.out, IsRow.of_owns (owns_set3 HOX.out hR1), HOX.out.no, isInts_nil _, HST.out, below_set3 (HBB.out.trans (HBR.out.mono HBB.out.size)) (Nat.le_trans (Nat.le_succ _) (Nat.le_succ _)), .inl rfl, .inr fun X hX => Apart.own HOX.out (by omega), fun X _ => apart_nil X⟩
    · have HST := Lib.hid (RefStep.moveRoom (n := n) (up := up) (S := S) (d := ⟨kd, ⟨y0, frm, till, k⟩⟩) (s := ⟨y0, y1, y2, y3⟩) HKD.out.1 HKD.out.2.1 HKD.out.2.2.1 HKD.out.2.2.2 HM.out.1 rfl KT.out HRR.out hin hrm)
      obtain ⟨hm1, hm2, q0, q1, q2, qf⟩ := made59 (w := w8) (n := n) (vu := .slice au up.length cu) (vs := .slice av (without S y0).length cv) rfl
      have h8t : Below w7.heap.size w7 (w8.alloc (.cells #[.int .i64 n, .slice au up.length cu, .slice av (without S y0).length cv] 59)) := hb8.trans (hm1.mono hb8.size)
      have t0 := (h8t.cell (p := ⟨w.heap.size, 0, none⟩) (by have := H17.out.size; simp only; omega)).trans t0
      have t1 := (h8t.cell (p := ⟨w.heap.size, 1, none⟩) (by have := H17.out.size; simp only; omega)).trans t1
      have t2 := (h8t.cell (p := ⟨w.heap.size, 2, none⟩) (by have := H17.out.size; simp only; omega)).trans t2
      have hbr : Below w1.heap.size w1 (w8.alloc (.cells #[.int .i64 n, .slice au up.length cu, .slice av (without S y0).length cv] 59)) := H17.out.trans (h8t.mono H17.out.size)
      obtain ⟨r0, r1, r2⟩ := HR.out
      have r0 := (hbr.cell (p := ⟨w.heap.size + 1 + 1, 0, none⟩) hR1).trans r0
      have r1 := (hbr.cell (p := ⟨w.heap.size + 1 + 1, 1, none⟩) hR1).trans r1
      have r2 := (hbr.cell (p := ⟨w.heap.size + 1 + 1, 2, none⟩) hR1).trans r2
      have f0 := (hbr.frozen (p := ⟨w.heap.size + 1 + 1, 0, none⟩) hR1).trans (HFZ.out 0)
      have f1 := (hbr.frozen (p := ⟨w.heap.size + 1 + 1, 1, none⟩) hR1).trans (HFZ.out 1)
      have f2 := (hbr.frozen (p := ⟨w.heap.size + 1 + 1, 2, none⟩) hR1).trans (HFZ.out 2)
      have HBR := Lib.hid hbr
      clear hbr
      clear u0 u1 u2 u3 s0 s1 s2 hb8 hm1 hm2 qf hin hrm h8t
      go_wp2_with fail
      obtain ⟨s0, s1, s2⟩ := set3 (a := .int .i64 n) (b := .slice au up.length cu) (c := .slice (some ⟨bS, oS, none⟩) S.length cz) r0 r1 r2
      refine bodyPost_ret (v := .tuple #[.agg #[.int .i64 n, .slice au up.length cu, .slice (some ⟨bS, oS, none⟩) S.length cz], .slice none 0 0, .int .i64 70]) (by simp [results, Try.f27]; go_simp) rfl ?_
      exact ⟨_, _, _, [], 70, up, S, rfl, IsRow.set3 (HU.out.below HBR.out) HAU.out, IsRow.set3 (HV.out.below HBR.out) HAV.out, HNO.out, isInts_nil _, HST.out, below_set3 (HBB.out.trans (HBR.out.mono HBB.out.size)) (Nat.le_trans (Nat.le_succ _) (Nat.le_succ _)), .inl rfl, .inl rfl, fun X _ => apart_nil X⟩

theorem refStep {w : World} {vu vs : Value} {n : Int} {up : List Step} {S : List Slot} (hu : IsSteps w vu up) (hs : IsSlots w vs S) (hno : ∀ m c, vs = .slice none m c → c = m) (hf : Fine n up S) (hul : up.length ≤ 1000) (hS : S.Pairwise fun a b => a.id < b.id) (d : Do) :
    Calls Try.prog 27 #[.agg #[.int .i64 n, vu, vs], doV d] w (RPost w n vu vs up S d) := by
  by_cases k5 : d.kind = 5
  · cases ha : outArg n d.s.frm d.s.to d.s.nodes
    · exact step5bad hu hs hno hf hul hS d k5 ha
    · exact step5 hu hs hno hf hul hS d k5 ha
  by_cases k1 : d.kind = 1
  · cases hr : rightOf n d.s
    · exact step1arg hu hs hno hf hul hS d k1 hr
    rcases any_id (L := S) (id := d.s.id) with hx | hx
    · exact step1twice hu hs hno hf hul hS d k1 hr hx
    by_cases hl : 9000 ≤ S.length
    · exact step1long hu hs hno hf hul hS d k1 hr hx hl
    · exact step1 hu hs hno hf hul hS d k1 hr hx (by omega)
  rcases any_id (L := S) (id := d.s.id) with hx | hx
  rotate_left
  · exact stepNone hu hs hno hf hul hS d k1 k5 hx
  by_cases k2 : d.kind = 2
  · exact step2 hu hs hno hf hul hS d hx k2
  by_cases k3 : d.kind = 3
  · cases ht : isT d.s.to
    · exact step3a hu hs hno hf hul hS d hx k3 ht
    · exact step3b hu hs hno hf hul hS d hx k3 ht
  cases ht : isT d.s.frm
  · exact step4a hu hs hno hf hul hS d hx k1 k2 k3 k5 ht
  · exact step4b hu hs hno hf hul hS d hx k1 k2 k3 k5 ht

end Go.Proofs.Ytjknmnmilladlaa
