/-
  Walk of the reference (layer 11): Step, told; nodes out; a slot taken. (Printed by gen27.py.)
-/
import Derived.Test.YtjknmnmilladlaaR15
namespace Go.Proofs.Ytjknmnmilladlaa
open Go.RowKit

def RPost (w : World) (n : Int) (vu vs : Value) (up : List Step) (S : List Slot) (d : Do) (e : Ending) (w' : World) : Prop :=
  ∃ (vu2 vs2 vg : Value) (ids : List Int) (err : Int) (up2 : List Step) (S2 : List Slot), e = .returned (.tuple #[.agg #[.int .i64 n, vu2, vs2], vg, .int .i64 err]) ∧ IsSteps w' vu2 up2 ∧ IsSlots w' vs2 S2 ∧ (∀ m c, vs2 = .slice none m c → c = m) ∧ IsInts w' vg ids ∧ RefStep n up S d ids err up2 S2 ∧ Below w.heap.size w w' ∧ (vu2 = vu ∨ ∀ X, X < w.heap.size → Apart X vu2) ∧ (vs2 = vs ∨ ∀ X, X < w.heap.size → Apart X vs2) ∧ ∀ X, X < w.heap.size → Apart X vg
theorem apart_nil (X : Nat) : Apart X (.slice none 0 0) := by
  intro a n c h
  cases h

/-- A book boxed, a Do boxed, a book for the result. -/
theorem pre46 {w W : World} {n : Int} {vu vs : Value} {kd id frm till k : Int} (hW : W = (((w.alloc (.cells #[.int .i64 n, vu, vs] 59)).alloc (.cells #[.int .i64 kd, .int .i64 id, .int .i64 frm, .int .i64 till, .int .i64 k] 46)).alloc (.cells #[.int .i64 0, .slice none 0 0, .slice none 0 0] 59))) :
    Below w.heap.size w W ∧ W.heap.size = w.heap.size + 3 ∧ (W.cell? ⟨w.heap.size, 0, none⟩ = some (.int .i64 n) ∧ W.cell? ⟨w.heap.size, 1, none⟩ = some vu ∧ W.cell? ⟨w.heap.size, 2, none⟩ = some vs) ∧
      (W.cell? ⟨w.heap.size + 1, 0, none⟩ = some (.int .i64 kd) ∧ W.cell? ⟨w.heap.size + 1, 1, none⟩ = some (.int .i64 id) ∧ W.cell? ⟨w.heap.size + 1, 2, none⟩ = some (.int .i64 frm) ∧ W.cell? ⟨w.heap.size + 1, 3, none⟩ = some (.int .i64 till) ∧ W.cell? ⟨w.heap.size + 1, 4, none⟩ = some (.int .i64 k)) ∧
      (W.cell? ⟨w.heap.size + 1 + 1, 0, none⟩ = some (.int .i64 0) ∧ W.cell? ⟨w.heap.size + 1 + 1, 1, none⟩ = some (.slice none 0 0) ∧ W.cell? ⟨w.heap.size + 1 + 1, 2, none⟩ = some (.slice none 0 0)) ∧ ∀ o, W.frozen? ⟨w.heap.size + 1 + 1, o, none⟩ = false := by
  subst hW
  refine ⟨(((Below.refl w.heap.size w).alloc (Nat.le_refl _) _).alloc (by simp) _).alloc (by simp; omega) _, by simp, ⟨?_, ?_, ?_⟩, ⟨?_, ?_, ?_, ?_, ?_⟩, ⟨?_, ?_, ?_⟩, ?_⟩
  · exact cell_old _ (cell_old _ (cell_new w _ 59 0 rfl))
  · exact cell_old _ (cell_old _ (cell_new w _ 59 1 rfl))
  · exact cell_old _ (cell_old _ (cell_new w _ 59 2 rfl))
  · exact cell_old _ (cell_at1 w _ _ 46 0 rfl)
  · exact cell_old _ (cell_at1 w _ _ 46 1 rfl)
  · exact cell_old _ (cell_at1 w _ _ 46 2 rfl)
  · exact cell_old _ (cell_at1 w _ _ 46 3 rfl)
  · exact cell_old _ (cell_at1 w _ _ 46 4 rfl)
  · exact cell_at2 w _ _ _ 59 0 rfl
  · exact cell_at2 w _ _ _ 59 1 rfl
  · exact cell_at2 w _ _ _ 59 2 rfl
  · exact fun o => frozen_at2 w _ _ _ 59 o

theorem made29 {w W : World} {a b c d : Value} (hW : W = w.alloc (.cells #[a, b, c, d] 29)) :
    Below w.heap.size w W ∧ W.heap.size = w.heap.size + 1 ∧ (W.cell? ⟨w.heap.size, 0, none⟩ = some a ∧ W.cell? ⟨w.heap.size, 1, none⟩ = some b ∧ W.cell? ⟨w.heap.size, 2, none⟩ = some c ∧ W.cell? ⟨w.heap.size, 3, none⟩ = some d) ∧ ∀ o, W.frozen? ⟨w.heap.size, o, none⟩ = false := by
  subst hW
  exact ⟨(Below.refl _ _).alloc (Nat.le_refl _) _, by simp, ⟨cell_new w _ 29 0 rfl, cell_new w _ 29 1 rfl, cell_new w _ 29 2 rfl, cell_new w _ 29 3 rfl⟩, fun o => frozen_new w _ 29 o⟩

theorem FindIs.none {S : List Slot} {id k : Int} (h : FindIs S id k) (hx : ∀ s ∈ S, s.id ≠ id) : k = -1 := by
  rcases h with ⟨h, _⟩ | ⟨q, _, h2, h3, _⟩
  · exact h
  · exact absurd h3 (hx _ (getD_mem h2))
theorem FindIs.some {S : List Slot} {id k : Int} (h : FindIs S id k) (hx : ∃ s ∈ S, s.id = id) : ∃ q : Nat, k = q ∧ q < S.length ∧ (S.getD q default).id = id := by
  rcases h with ⟨_, h⟩ | ⟨q, h1, h2, h3, _⟩
  · obtain ⟨s, hs, hi⟩ := hx
    exact absurd hi (h s hs)
  · exact ⟨q, h1, h2, h3⟩

set_option maxHeartbeats 8000000 in
set_option maxRecDepth 100000 in
theorem step5bad {w : World} {vu vs : Value} {n : Int} {up : List Step} {S : List Slot} (hu : IsSteps w vu up) (hs : IsSlots w vs S) (hno : ∀ m c, vs = .slice none m c → c = m) (hf : Fine n up S) (hul : up.length ≤ 1000) (hS : S.Pairwise fun a b => a.id < b.id) (d : Do) (hk : d.kind = 5) (ha : outArg n d.s.frm d.s.to d.s.nodes = false) :
    Calls Try.prog 27 #[.agg #[.int .i64 n, vu, vs], doV d] w (RPost w n vu vs up S d) := by
  obtain ⟨kd, id, frm, till, k⟩ := d
  obtain ⟨au, cu, hvu, _, _⟩ := hu.shape
  obtain ⟨az, cz, hvs, _, _⟩ := hs.shape
  unfold doV
  simp only at *
  have e5 : (kd == 5) = true := by simpa using hk
  have HK := Lib.hid hk
  clear hk
  have hau : Apart (w.heap.size + 1 + 1) vu := Apart.of_lt hu (by omega)
  have hav : Apart (w.heap.size + 1 + 1) vs := Apart.slots hs (by omega)
  obtain ⟨w1, hw1⟩ : ∃ w1, w1 = (((w.alloc (.cells #[.int .i64 n, vu, vs] 59)).alloc (.cells #[.int .i64 kd, .int .i64 id, .int .i64 frm, .int .i64 till, .int .i64 k] 46)).alloc (.cells #[.int .i64 0, .slice none 0 0, .slice none 0 0] 59)) := ⟨_, rfl⟩
  obtain ⟨hBB, hsz, ⟨t0, t1, t2⟩, ⟨x0, x1, x2, x3, x4⟩, ⟨r0, r1, r2⟩, fz⟩ := pre46 hw1
  have HT := Lib.hid (refFind (w := w1) (vu := vu) n (hs.below hBB) hf.l id)
  have HBB := Lib.hid hBB
  have HSZ := Lib.hid hsz
  have HU := Lib.hid (hu.below hBB)
  have HV := Lib.hid (hs.below hBB)
  have HNO := Lib.hid hno
  have HF := Lib.hid hf
  have HUL := Lib.hid hul
  have HS := Lib.hid hS
  have HAU := Lib.hid hau
  have HAV := Lib.hid hav
  have HFZ := Lib.hid fz
  have HR := Lib.hid (And.intro r0 (And.intro r1 r2))
  have HC := Lib.hid (And.intro t0 (And.intro t1 t2))
  have HX := Lib.hid (And.intro x0 (And.intro x1 (And.intro x2 (And.intro x3 x4))))
  subst hvu
  subst hvs
  clear hu hs hno hf hul hS hBB hsz fz r0 r1 r2 hau hav
  rw [hw1] at t0 t1 t2 x0 x1 x2 x3 x4
  have HW1 := Lib.hid hw1
  clear hw1
  go_enter Try.func27, Try.ntmps27
  go_wp2_with fail
  rw [← HW1.out]
  clear t0 t1 t2 x0 x1 x2 x3 x4
  refine (HT.out).mono ?_
  rintro e w2 ⟨⟨fk, rfl, hfi⟩, hb2⟩
  have hs1 := HSZ.out
  have hR1 : w.heap.size + 1 + 1 < w1.heap.size := by omega
  obtain ⟨t0, t1, t2⟩ := HC.out
  obtain ⟨x0, x1, x2, x3, x4⟩ := HX.out
  have t0 := (hb2.cell (p := ⟨w.heap.size, 0, none⟩) (by simp only; omega)).trans t0
  have t1 := (hb2.cell (p := ⟨w.heap.size, 1, none⟩) (by simp only; omega)).trans t1
  have t2 := (hb2.cell (p := ⟨w.heap.size, 2, none⟩) (by simp only; omega)).trans t2
  have x0 := (hb2.cell (p := ⟨w.heap.size + 1, 0, none⟩) (by simp only; omega)).trans x0
  have x1 := (hb2.cell (p := ⟨w.heap.size + 1, 1, none⟩) (by simp only; omega)).trans x1
  have x2 := (hb2.cell (p := ⟨w.heap.size + 1, 2, none⟩) (by simp only; omega)).trans x2
  have x3 := (hb2.cell (p := ⟨w.heap.size + 1, 3, none⟩) (by simp only; omega)).trans x3
  have x4 := (hb2.cell (p := ⟨w.heap.size + 1, 4, none⟩) (by simp only; omega)).trans x4
  have hsz2 := hb2.size
  have HB2 := Lib.hid hb2
  have HU2 := Lib.hid (HU.out.below hb2)
  have HV2 := Lib.hid (HV.out.below hb2)
  have HFI := Lib.hid hfi
  clear hb2 hfi hs1
  have HP := Lib.hid (refOutBad (w := w2) (vu := .slice au up.length cu) (vs := .slice az S.length cz) n ⟨_, _, _, rfl⟩ ⟨_, _, _, rfl⟩ ⟨id, frm, till, k⟩ ha)
  have HST := Lib.hid (RefStep.outArg (n := n) (up := up) (S := S) (d := ⟨kd, ⟨id, frm, till, k⟩⟩) HK.out ha)
  clear ha
  go_wp2_with fail
  refine (HP.out).mono ?_
  rintro e w3 ⟨rfl, hb3⟩
  have hbr : Below w1.heap.size w1 w3 := HB2.out.trans (hb3.mono HB2.out.size)
  obtain ⟨r0, r1, r2⟩ := HR.out
  have r0 := (hbr.cell (p := ⟨w.heap.size + 1 + 1, 0, none⟩) hR1).trans r0
  have r1 := (hbr.cell (p := ⟨w.heap.size + 1 + 1, 1, none⟩) hR1).trans r1
  have r2 := (hbr.cell (p := ⟨w.heap.size + 1 + 1, 2, none⟩) hR1).trans r2
  have f0 := (hbr.frozen (p := ⟨w.heap.size + 1 + 1, 0, none⟩) hR1).trans (HFZ.out 0)
  have f1 := (hbr.frozen (p := ⟨w.heap.size + 1 + 1, 1, none⟩) hR1).trans (HFZ.out 1)
  have f2 := (hbr.frozen (p := ⟨w.heap.size + 1 + 1, 2, none⟩) hR1).trans (HFZ.out 2)
  have HBR := Lib.hid hbr
  clear hbr
  clear hb3 t0 t1 t2 x0 x1 x2 x3 x4
  go_wp2_with fail
  obtain ⟨s0, s1, s2⟩ := set3 (a := .int .i64 n) (b := .slice au up.length cu) (c := .slice az S.length cz) r0 r1 r2
  refine bodyPost_ret (v := .tuple #[.agg #[.int .i64 n, .slice au up.length cu, .slice az S.length cz], .slice none 0 0, .int .i64 2]) (by simp [results, Try.f27]; go_simp) rfl ?_
  exact ⟨_, _, _, [], 2, up, S, rfl, IsRow.set3 (HU.out.below HBR.out) HAU.out, IsRow.set3 (HV.out.below HBR.out) HAV.out, HNO.out, isInts_nil _, HST.out, below_set3 (HBB.out.trans (HBR.out.mono HBB.out.size)) (Nat.le_trans (Nat.le_succ _) (Nat.le_succ _)), .inl rfl, .inl rfl, fun X _ => apart_nil X⟩

set_option maxHeartbeats 8000000 in
set_option maxRecDepth 100000 in
theorem step5 {w : World} {vu vs : Value} {n : Int} {up : List Step} {S : List Slot} (hu : IsSteps w vu up) (hs : IsSlots w vs S) (hno : ∀ m c, vs = .slice none m c → c = m) (hf : Fine n up S) (hul : up.length ≤ 1000) (hS : S.Pairwise fun a b => a.id < b.id) (d : Do) (hk : d.kind = 5) (ha : outArg n d.s.frm d.s.to d.s.nodes = true) :
    Calls Try.prog 27 #[.agg #[.int .i64 n, vu, vs], doV d] w (RPost w n vu vs up S d) := by
  obtain ⟨kd, id, frm, till, k⟩ := d
  obtain ⟨au, cu, hvu, _, _⟩ := hu.shape
  obtain ⟨az, cz, hvs, _, _⟩ := hs.shape
  unfold doV
  simp only at *
  have e5 : (kd == 5) = true := by simpa using hk
  have HK := Lib.hid hk
  clear hk
  have hau : Apart (w.heap.size + 1 + 1) vu := Apart.of_lt hu (by omega)
  have hav : Apart (w.heap.size + 1 + 1) vs := Apart.slots hs (by omega)
  obtain ⟨w1, hw1⟩ : ∃ w1, w1 = (((w.alloc (.cells #[.int .i64 n, vu, vs] 59)).alloc (.cells #[.int .i64 kd, .int .i64 id, .int .i64 frm, .int .i64 till, .int .i64 k] 46)).alloc (.cells #[.int .i64 0, .slice none 0 0, .slice none 0 0] 59)) := ⟨_, rfl⟩
  obtain ⟨hBB, hsz, ⟨t0, t1, t2⟩, ⟨x0, x1, x2, x3, x4⟩, ⟨r0, r1, r2⟩, fz⟩ := pre46 hw1
  have HT := Lib.hid (refFind (w := w1) (vu := vu) n (hs.below hBB) hf.l id)
  have HBB := Lib.hid hBB
  have HSZ := Lib.hid hsz
  have HU := Lib.hid (hu.below hBB)
  have HV := Lib.hid (hs.below hBB)
  have HNO := Lib.hid hno
  have HF := Lib.hid hf
  have HUL := Lib.hid hul
  have HS := Lib.hid hS
  have HAU := Lib.hid hau
  have HAV := Lib.hid hav
  have HFZ := Lib.hid fz
  have HR := Lib.hid (And.intro r0 (And.intro r1 r2))
  have HC := Lib.hid (And.intro t0 (And.intro t1 t2))
  have HX := Lib.hid (And.intro x0 (And.intro x1 (And.intro x2 (And.intro x3 x4))))
  subst hvu
  subst hvs
  clear hu hs hno hf hul hS hBB hsz fz r0 r1 r2 hau hav
  rw [hw1] at t0 t1 t2 x0 x1 x2 x3 x4
  have HW1 := Lib.hid hw1
  clear hw1
  go_enter Try.func27, Try.ntmps27
  go_wp2_with fail
  rw [← HW1.out]
  clear t0 t1 t2 x0 x1 x2 x3 x4
  refine (HT.out).mono ?_
  rintro e w2 ⟨⟨fk, rfl, hfi⟩, hb2⟩
  have hs1 := HSZ.out
  have hR1 : w.heap.size + 1 + 1 < w1.heap.size := by omega
  obtain ⟨t0, t1, t2⟩ := HC.out
  obtain ⟨x0, x1, x2, x3, x4⟩ := HX.out
  have t0 := (hb2.cell (p := ⟨w.heap.size, 0, none⟩) (by simp only; omega)).trans t0
  have t1 := (hb2.cell (p := ⟨w.heap.size, 1, none⟩) (by simp only; omega)).trans t1
  have t2 := (hb2.cell (p := ⟨w.heap.size, 2, none⟩) (by simp only; omega)).trans t2
  have x0 := (hb2.cell (p := ⟨w.heap.size + 1, 0, none⟩) (by simp only; omega)).trans x0
  have x1 := (hb2.cell (p := ⟨w.heap.size + 1, 1, none⟩) (by simp only; omega)).trans x1
  have x2 := (hb2.cell (p := ⟨w.heap.size + 1, 2, none⟩) (by simp only; omega)).trans x2
  have x3 := (hb2.cell (p := ⟨w.heap.size + 1, 3, none⟩) (by simp only; omega)).trans x3
  have x4 := (hb2.cell (p := ⟨w.heap.size + 1, 4, none⟩) (by simp only; omega)).trans x4
  have hsz2 := hb2.size
  have HB2 := Lib.hid hb2
  have HU2 := Lib.hid (HU.out.below hb2)
  have HV2 := Lib.hid (HV.out.below hb2)
  have HFI := Lib.hid hfi
  clear hb2 hfi hs1
  have HP := Lib.hid (refOutMain (w := w2) HU2.out HV2.out HNO.out HF.out HUL.out HS.out ⟨id, frm, till, k⟩ ha)
  have HKA := Lib.hid (And.intro HK.out ha)
  clear ha
  go_wp2_with fail
  refine (HP.out).mono ?_
  rintro e w3 ⟨⟨hl, rfl⟩ | ⟨hl, vu2, vs2, vg, G, g, T, rfl, h1, h2, h3, h4, h5, h6, h7, h8, h9, h10, h11⟩, hb3⟩
  · have HST := Lib.hid (RefStep.outLong (n := n) (up := up) (S := S) (d := ⟨kd, ⟨id, frm, till, k⟩⟩) HKA.out.1 HKA.out.2 hl)
    have hbr : Below w1.heap.size w1 w3 := HB2.out.trans (hb3.mono HB2.out.size)
    obtain ⟨r0, r1, r2⟩ := HR.out
    have r0 := (hbr.cell (p := ⟨w.heap.size + 1 + 1, 0, none⟩) hR1).trans r0
    have r1 := (hbr.cell (p := ⟨w.heap.size + 1 + 1, 1, none⟩) hR1).trans r1
    have r2 := (hbr.cell (p := ⟨w.heap.size + 1 + 1, 2, none⟩) hR1).trans r2
    have f0 := (hbr.frozen (p := ⟨w.heap.size + 1 + 1, 0, none⟩) hR1).trans (HFZ.out 0)
    have f1 := (hbr.frozen (p := ⟨w.heap.size + 1 + 1, 1, none⟩) hR1).trans (HFZ.out 1)
    have f2 := (hbr.frozen (p := ⟨w.heap.size + 1 + 1, 2, none⟩) hR1).trans (HFZ.out 2)
    have HBR := Lib.hid hbr
    clear hbr
    clear hb3 hl t0 t1 t2 x0 x1 x2 x3 x4
    go_wp2_with fail
    obtain ⟨s0, s1, s2⟩ := set3 (a := .int .i64 n) (b := .slice au up.length cu) (c := .slice az S.length cz) r0 r1 r2
    refine bodyPost_ret (v := .tuple #[.agg #[.int .i64 n, .slice au up.length cu, .slice az S.length cz], .slice none 0 0, .int .i64 3]) (by simp [results, Try.f27]; go_simp) rfl ?_
    exact ⟨_, _, _, [], 3, up, S, rfl, IsRow.set3 (HU.out.below HBR.out) HAU.out, IsRow.set3 (HV.out.below HBR.out) HAV.out, HNO.out, isInts_nil _, HST.out, below_set3 (HBB.out.trans (HBR.out.mono HBB.out.size)) (Nat.le_trans (Nat.le_succ _) (Nat.le_succ _)), .inl rfl, .inl rfl, fun X _ => apart_nil X⟩
  · have HST := Lib.hid (RefStep.out (n := n) (up := up) (S := S) (d := ⟨kd, ⟨id, frm, till, k⟩⟩) HKA.out.1 HKA.out.2 hl h5 h6 h7 h8)
    have hR2 : w.heap.size + 1 + 1 < w2.heap.size := by omega
    have h12 : Apart (w.heap.size + 1 + 1) vs2 := by
      rcases h10 with h | h
      · rw [h]; exact HAV.out
      · exact h _ hR2
    have H1 := Lib.hid (And.intro h1 (h9 _ hR2))
    have H2 := Lib.hid (And.intro h2 h12)
    have H3 := Lib.hid h3
    have H4 := Lib.hid (And.intro h4 (h11 _ hR2))
    have HAP9 := Lib.hid (And.intro h9 (And.intro h10 h11))
    obtain ⟨a2, c2, rfl, _, _⟩ := h1.shape
    obtain ⟨a3, c3, rfl, _, _⟩ := h2.shape
    obtain ⟨a4, c4, rfl, _, _⟩ := h4.shape
    generalize hUU : outUp up frm till k = U at *
    have HUU := Lib.hid hUU
    have hbr : Below w1.heap.size w1 w3 := HB2.out.trans (hb3.mono HB2.out.size)
    obtain ⟨r0, r1, r2⟩ := HR.out
    have r0 := (hbr.cell (p := ⟨w.heap.size + 1 + 1, 0, none⟩) hR1).trans r0
    have r1 := (hbr.cell (p := ⟨w.heap.size + 1 + 1, 1, none⟩) hR1).trans r1
    have r2 := (hbr.cell (p := ⟨w.heap.size + 1 + 1, 2, none⟩) hR1).trans r2
    have f0 := (hbr.frozen (p := ⟨w.heap.size + 1 + 1, 0, none⟩) hR1).trans (HFZ.out 0)
    have f1 := (hbr.frozen (p := ⟨w.heap.size + 1 + 1, 1, none⟩) hR1).trans (HFZ.out 1)
    have f2 := (hbr.frozen (p := ⟨w.heap.size + 1 + 1, 2, none⟩) hR1).trans (HFZ.out 2)
    have HBR := Lib.hid hbr
    clear hbr
    clear hb3 hl h1 h2 h3 h4 h5 h6 h7 h8 h9 h10 h11 h12 hUU t0 t1 t2 x0 x1 x2 x3 x4
    go_wp2_with fail
    obtain ⟨s0, s1, s2⟩ := set3 (a := .int .i64 n) (b := .slice a2 U.length c2) (c := .slice a3 T.length c3) r0 r1 r2
    refine bodyPost_ret (v := .tuple #[.agg #[.int .i64 n, .slice a2 U.length c2, .slice a3 T.length c3], .slice a4 g.length c4, .int .i64 0]) (by simp [results, Try.f27]; go_simp) rfl ?_
    exact ⟨_, _, _, g, 0, U, T, rfl, IsRow.set3 H1.out.1 H1.out.2, IsRow.set3 H2.out.1 H2.out.2, H3.out, IsRow.set3 H4.out.1 H4.out.2, HST.out, below_set3 (HBB.out.trans (HBR.out.mono HBB.out.size)) (Nat.le_trans (Nat.le_succ _) (Nat.le_succ _)), .inr fun X hX => HAP9.out.1 X (by omega), HAP9.out.2.1.imp (fun h => h) fun h X hX => h X (by omega), fun X hX => HAP9.out.2.2 X (by omega)⟩

set_option maxHeartbeats 8000000 in
set_option maxRecDepth 100000 in
theorem step1arg {w : World} {vu vs : Value} {n : Int} {up : List Step} {S : List Slot} (hu : IsSteps w vu up) (hs : IsSlots w vs S) (hno : ∀ m c, vs = .slice none m c → c = m) (hf : Fine n up S) (hul : up.length ≤ 1000) (hS : S.Pairwise fun a b => a.id < b.id) (d : Do) (hk : d.kind = 1) (hr : rightOf n d.s = false) :
    Calls Try.prog 27 #[.agg #[.int .i64 n, vu, vs], doV d] w (RPost w n vu vs up S d) := by
  obtain ⟨kd, id, frm, till, k⟩ := d
  obtain ⟨au, cu, hvu, _, _⟩ := hu.shape
  obtain ⟨az, cz, hvs, _, _⟩ := hs.shape
  unfold doV
  simp only at *
  have e5 : (kd == 5) = false := by simp; omega
  have e1 : (kd == 1) = true := by simpa using hk
  have HK := Lib.hid hk
  clear hk
  have hau : Apart (w.heap.size + 1 + 1) vu := Apart.of_lt hu (by omega)
  have hav : Apart (w.heap.size + 1 + 1) vs := Apart.slots hs (by omega)
  obtain ⟨w1, hw1⟩ : ∃ w1, w1 = (((w.alloc (.cells #[.int .i64 n, vu, vs] 59)).alloc (.cells #[.int .i64 kd, .int .i64 id, .int .i64 frm, .int .i64 till, .int .i64 k] 46)).alloc (.cells #[.int .i64 0, .slice none 0 0, .slice none 0 0] 59)) := ⟨_, rfl⟩
  obtain ⟨hBB, hsz, ⟨t0, t1, t2⟩, ⟨x0, x1, x2, x3, x4⟩, ⟨r0, r1, r2⟩, fz⟩ := pre46 hw1
  have HT := Lib.hid (refFind (w := w1) (vu := vu) n (hs.below hBB) hf.l id)
  have HBB := Lib.hid hBB
  have HSZ := Lib.hid hsz
  have HU := Lib.hid (hu.below hBB)
  have HV := Lib.hid (hs.below hBB)
  have HNO := Lib.hid hno
  have HF := Lib.hid hf
  have HUL := Lib.hid hul
  have HS := Lib.hid hS
  have HAU := Lib.hid hau
  have HAV := Lib.hid hav
  have HFZ := Lib.hid fz
  have HR := Lib.hid (And.intro r0 (And.intro r1 r2))
  have HC := Lib.hid (And.intro t0 (And.intro t1 t2))
  have HX := Lib.hid (And.intro x0 (And.intro x1 (And.intro x2 (And.intro x3 x4))))
  subst hvu
  subst hvs
  clear hu hs hno hf hul hS hBB hsz fz r0 r1 r2 hau hav
  rw [hw1] at t0 t1 t2 x0 x1 x2 x3 x4
  have HW1 := Lib.hid hw1
  clear hw1
  go_enter Try.func27, Try.ntmps27
  go_wp2_with fail
  rw [← HW1.out]
  clear t0 t1 t2 x0 x1 x2 x3 x4
  refine (HT.out).mono ?_
  rintro e w2 ⟨⟨fk, rfl, hfi⟩, hb2⟩
  have hs1 := HSZ.out
  have hR1 : w.heap.size + 1 + 1 < w1.heap.size := by omega
  obtain ⟨t0, t1, t2⟩ := HC.out
  obtain ⟨x0, x1, x2, x3, x4⟩ := HX.out
  have t0 := (hb2.cell (p := ⟨w.heap.size, 0, none⟩) (by simp only; omega)).trans t0
  have t1 := (hb2.cell (p := ⟨w.heap.size, 1, none⟩) (by simp only; omega)).trans t1
  have t2 := (hb2.cell (p := ⟨w.heap.size, 2, none⟩) (by simp only; omega)).trans t2
  have x0 := (hb2.cell (p := ⟨w.heap.size + 1, 0, none⟩) (by simp only; omega)).trans x0
  have x1 := (hb2.cell (p := ⟨w.heap.size + 1, 1, none⟩) (by simp only; omega)).trans x1
  have x2 := (hb2.cell (p := ⟨w.heap.size + 1, 2, none⟩) (by simp only; omega)).trans x2
  have x3 := (hb2.cell (p := ⟨w.heap.size + 1, 3, none⟩) (by simp only; omega)).trans x3
  have x4 := (hb2.cell (p := ⟨w.heap.size + 1, 4, none⟩) (by simp only; omega)).trans x4
  have hsz2 := hb2.size
  have HB2 := Lib.hid hb2
  have HU2 := Lib.hid (HU.out.below hb2)
  have HV2 := Lib.hid (HV.out.below hb2)
  have HFI := Lib.hid hfi
  clear hb2 hfi hs1
  have HP := Lib.hid (refRight (w := w2) (vu := .slice au up.length cu) (vs := .slice az S.length cz) n ⟨id, frm, till, k⟩)
  rw [show rightOf n ⟨id, frm, till, k⟩ = false from hr] at HP
  have HST := Lib.hid (RefStep.takeArg (n := n) (up := up) (S := S) (d := ⟨kd, ⟨id, frm, till, k⟩⟩) HK.out hr)
  clear hr
  go_wp2_with fail
  refine (HP.out).mono ?_
  rintro e w3 ⟨rfl, hb3⟩
  have t0 := (hb3.cell (p := ⟨w.heap.size, 0, none⟩) (by simp only; omega)).trans t0
  have t1 := (hb3.cell (p := ⟨w.heap.size, 1, none⟩) (by simp only; omega)).trans t1
  have t2 := (hb3.cell (p := ⟨w.heap.size, 2, none⟩) (by simp only; omega)).trans t2
  have hbr : Below w1.heap.size w1 w3 := HB2.out.trans (hb3.mono HB2.out.size)
  obtain ⟨r0, r1, r2⟩ := HR.out
  have r0 := (hbr.cell (p := ⟨w.heap.size + 1 + 1, 0, none⟩) hR1).trans r0
  have r1 := (hbr.cell (p := ⟨w.heap.size + 1 + 1, 1, none⟩) hR1).trans r1
  have r2 := (hbr.cell (p := ⟨w.heap.size + 1 + 1, 2, none⟩) hR1).trans r2
  have f0 := (hbr.frozen (p := ⟨w.heap.size + 1 + 1, 0, none⟩) hR1).trans (HFZ.out 0)
  have f1 := (hbr.frozen (p := ⟨w.heap.size + 1 + 1, 1, none⟩) hR1).trans (HFZ.out 1)
  have f2 := (hbr.frozen (p := ⟨w.heap.size + 1 + 1, 2, none⟩) hR1).trans (HFZ.out 2)
  have HBR := Lib.hid hbr
  clear hbr
  clear x0 x1 x2 x3 x4 hb3
  go_wp2_with fail
  obtain ⟨s0, s1, s2⟩ := set3 (a := .int .i64 n) (b := .slice au up.length cu) (c := .slice az S.length cz) r0 r1 r2
  refine bodyPost_ret (v := .tuple #[.agg #[.int .i64 n, .slice au up.length cu, .slice az S.length cz], .slice none 0 0, .int .i64 2]) (by simp [results, Try.f27]; go_simp) rfl ?_
  exact ⟨_, _, _, [], 2, up, S, rfl, IsRow.set3 (HU.out.below HBR.out) HAU.out, IsRow.set3 (HV.out.below HBR.out) HAV.out, HNO.out, isInts_nil _, HST.out, below_set3 (HBB.out.trans (HBR.out.mono HBB.out.size)) (Nat.le_trans (Nat.le_succ _) (Nat.le_succ _)), .inl rfl, .inl rfl, fun X _ => apart_nil X⟩

set_option maxHeartbeats 8000000 in
set_option maxRecDepth 100000 in
theorem step1twice {w : World} {vu vs : Value} {n : Int} {up : List Step} {S : List Slot} (hu : IsSteps w vu up) (hs : IsSlots w vs S) (hno : ∀ m c, vs = .slice none m c → c = m) (hf : Fine n up S) (hul : up.length ≤ 1000) (hS : S.Pairwise fun a b => a.id < b.id) (d : Do) (hk : d.kind = 1) (hr : rightOf n d.s = true) (hx : ∃ x ∈ S, x.id = d.s.id) :
    Calls Try.prog 27 #[.agg #[.int .i64 n, vu, vs], doV d] w (RPost w n vu vs up S d) := by
  obtain ⟨kd, id, frm, till, k⟩ := d
  obtain ⟨au, cu, hvu, _, _⟩ := hu.shape
  obtain ⟨az, cz, hvs, _, _⟩ := hs.shape
  unfold doV
  simp only at *
  have e5 : (kd == 5) = false := by simp; omega
  have e1 : (kd == 1) = true := by simpa using hk
  have HK := Lib.hid hk
  clear hk
  have hau : Apart (w.heap.size + 1 + 1) vu := Apart.of_lt hu (by omega)
  have hav : Apart (w.heap.size + 1 + 1) vs := Apart.slots hs (by omega)
  obtain ⟨w1, hw1⟩ : ∃ w1, w1 = (((w.alloc (.cells #[.int .i64 n, vu, vs] 59)).alloc (.cells #[.int .i64 kd, .int .i64 id, .int .i64 frm, .int .i64 till, .int .i64 k] 46)).alloc (.cells #[.int .i64 0, .slice none 0 0, .slice none 0 0] 59)) := ⟨_, rfl⟩
  obtain ⟨hBB, hsz, ⟨t0, t1, t2⟩, ⟨x0, x1, x2, x3, x4⟩, ⟨r0, r1, r2⟩, fz⟩ := pre46 hw1
  have HT := Lib.hid (refFind (w := w1) (vu := vu) n (hs.below hBB) hf.l id)
  have HBB := Lib.hid hBB
  have HSZ := Lib.hid hsz
  have HU := Lib.hid (hu.below hBB)
  have HV := Lib.hid (hs.below hBB)
  have HNO := Lib.hid hno
  have HF := Lib.hid hf
  have HUL := Lib.hid hul
  have HS := Lib.hid hS
  have HAU := Lib.hid hau
  have HAV := Lib.hid hav
  have HFZ := Lib.hid fz
  have HR := Lib.hid (And.intro r0 (And.intro r1 r2))
  have HC := Lib.hid (And.intro t0 (And.intro t1 t2))
  have HX := Lib.hid (And.intro x0 (And.intro x1 (And.intro x2 (And.intro x3 x4))))
  subst hvu
  subst hvs
  clear hu hs hno hf hul hS hBB hsz fz r0 r1 r2 hau hav
  rw [hw1] at t0 t1 t2 x0 x1 x2 x3 x4
  have HW1 := Lib.hid hw1
  clear hw1
  go_enter Try.func27, Try.ntmps27
  go_wp2_with fail
  rw [← HW1.out]
  clear t0 t1 t2 x0 x1 x2 x3 x4
  refine (HT.out).mono ?_
  rintro e w2 ⟨⟨fk, rfl, hfi⟩, hb2⟩
  have hs1 := HSZ.out
  have hR1 : w.heap.size + 1 + 1 < w1.heap.size := by omega
  obtain ⟨t0, t1, t2⟩ := HC.out
  obtain ⟨x0, x1, x2, x3, x4⟩ := HX.out
  have t0 := (hb2.cell (p := ⟨w.heap.size, 0, none⟩) (by simp only; omega)).trans t0
  have t1 := (hb2.cell (p := ⟨w.heap.size, 1, none⟩) (by simp only; omega)).trans t1
  have t2 := (hb2.cell (p := ⟨w.heap.size, 2, none⟩) (by simp only; omega)).trans t2
  have x0 := (hb2.cell (p := ⟨w.heap.size + 1, 0, none⟩) (by simp only; omega)).trans x0
  have x1 := (hb2.cell (p := ⟨w.heap.size + 1, 1, none⟩) (by simp only; omega)).trans x1
  have x2 := (hb2.cell (p := ⟨w.heap.size + 1, 2, none⟩) (by simp only; omega)).trans x2
  have x3 := (hb2.cell (p := ⟨w.heap.size + 1, 3, none⟩) (by simp only; omega)).trans x3
  have x4 := (hb2.cell (p := ⟨w.heap.size + 1, 4, none⟩) (by simp only; omega)).trans x4
  have hsz2 := hb2.size
  have HB2 := Lib.hid hb2
  have HU2 := Lib.hid (HU.out.below hb2)
  have HV2 := Lib.hid (HV.out.below hb2)
  have HFI := Lib.hid hfi
  clear hb2 hfi hs1
  have HP := Lib.hid (refRight (w := w2) (vu := .slice au up.length cu) (vs := .slice az S.length cz) n ⟨id, frm, till, k⟩)
  rw [show rightOf n ⟨id, frm, till, k⟩ = true from hr] at HP
  obtain ⟨q, rfl, hql, hqi⟩ := HFI.out.some hx
  have HST := Lib.hid (RefStep.takeTwice (n := n) (up := up) (S := S) (d := ⟨kd, ⟨id, frm, till, k⟩⟩) HK.out hr (getD_mem hql) hqi)
  have dq : decide ((0 : Int) ≤ (q : Int)) = true := by rw [decide_eq_true_iff]; omega
  clear hr hx hqi
  go_wp2_with fail
  refine (HP.out).mono ?_
  rintro e w3 ⟨rfl, hb3⟩
  have t0 := (hb3.cell (p := ⟨w.heap.size, 0, none⟩) (by simp only; omega)).trans t0
  have t1 := (hb3.cell (p := ⟨w.heap.size, 1, none⟩) (by simp only; omega)).trans t1
  have t2 := (hb3.cell (p := ⟨w.heap.size, 2, none⟩) (by simp only; omega)).trans t2
  have hbr : Below w1.heap.size w1 w3 := HB2.out.trans (hb3.mono HB2.out.size)
  obtain ⟨r0, r1, r2⟩ := HR.out
  have r0 := (hbr.cell (p := ⟨w.heap.size + 1 + 1, 0, none⟩) hR1).trans r0
  have r1 := (hbr.cell (p := ⟨w.heap.size + 1 + 1, 1, none⟩) hR1).trans r1
  have r2 := (hbr.cell (p := ⟨w.heap.size + 1 + 1, 2, none⟩) hR1).trans r2
  have f0 := (hbr.frozen (p := ⟨w.heap.size + 1 + 1, 0, none⟩) hR1).trans (HFZ.out 0)
  have f1 := (hbr.frozen (p := ⟨w.heap.size + 1 + 1, 1, none⟩) hR1).trans (HFZ.out 1)
  have f2 := (hbr.frozen (p := ⟨w.heap.size + 1 + 1, 2, none⟩) hR1).trans (HFZ.out 2)
  have HBR := Lib.hid hbr
  clear hbr
  clear x0 x1 x2 x3 x4 hb3
  go_wp2_with fail
  obtain ⟨s0, s1, s2⟩ := set3 (a := .int .i64 n) (b := .slice au up.length cu) (c := .slice az S.length cz) r0 r1 r2
  refine bodyPost_ret (v := .tuple #[.agg #[.int .i64 n, .slice au up.length cu, .slice az S.length cz], .slice none 0 0, .int .i64 51]) (by simp [results, Try.f27]; go_simp) rfl ?_
  exact ⟨_, _, _, [], 51, up, S, rfl, IsRow.set3 (HU.out.below HBR.out) HAU.out, IsRow.set3 (HV.out.below HBR.out) HAV.out, HNO.out, isInts_nil _, HST.out, below_set3 (HBB.out.trans (HBR.out.mono HBB.out.size)) (Nat.le_trans (Nat.le_succ _) (Nat.le_succ _)), .inl rfl, .inl rfl, fun X _ => apart_nil X⟩

set_option maxHeartbeats 8000000 in
set_option maxRecDepth 100000 in
theorem step1long {w : World} {vu vs : Value} {n : Int} {up : List Step} {S : List Slot} (hu : IsSteps w vu up) (hs : IsSlots w vs S) (hno : ∀ m c, vs = .slice none m c → c = m) (hf : Fine n up S) (hul : up.length ≤ 1000) (hS : S.Pairwise fun a b => a.id < b.id) (d : Do) (hk : d.kind = 1) (hr : rightOf n d.s = true) (hx : ∀ x ∈ S, x.id ≠ d.s.id) (hl : 9000 ≤ S.length) :
    Calls Try.prog 27 #[.agg #[.int .i64 n, vu, vs], doV d] w (RPost w n vu vs up S d) := by
  obtain ⟨kd, id, frm, till, k⟩ := d
  obtain ⟨au, cu, hvu, _, _⟩ := hu.shape
  obtain ⟨az, cz, hvs, _, _⟩ := hs.shape
  unfold doV
  simp only at *
  have e5 : (kd == 5) = false := by simp; omega
  have e1 : (kd == 1) = true := by simpa using hk
  have HK := Lib.hid hk
  clear hk
  have hau : Apart (w.heap.size + 1 + 1) vu := Apart.of_lt hu (by omega)
  have hav : Apart (w.heap.size + 1 + 1) vs := Apart.slots hs (by omega)
  obtain ⟨w1, hw1⟩ : ∃ w1, w1 = (((w.alloc (.cells #[.int .i64 n, vu, vs] 59)).alloc (.cells #[.int .i64 kd, .int .i64 id, .int .i64 frm, .int .i64 till, .int .i64 k] 46)).alloc (.cells #[.int .i64 0, .slice none 0 0, .slice none 0 0] 59)) := ⟨_, rfl⟩
  obtain ⟨hBB, hsz, ⟨t0, t1, t2⟩, ⟨x0, x1, x2, x3, x4⟩, ⟨r0, r1, r2⟩, fz⟩ := pre46 hw1
  have HT := Lib.hid (refFind (w := w1) (vu := vu) n (hs.below hBB) hf.l id)
  have HBB := Lib.hid hBB
  have HSZ := Lib.hid hsz
  have HU := Lib.hid (hu.below hBB)
  have HV := Lib.hid (hs.below hBB)
  have HNO := Lib.hid hno
  have HF := Lib.hid hf
  have HUL := Lib.hid hul
  have HS := Lib.hid hS
  have HAU := Lib.hid hau
  have HAV := Lib.hid hav
  have HFZ := Lib.hid fz
  have HR := Lib.hid (And.intro r0 (And.intro r1 r2))
  have HC := Lib.hid (And.intro t0 (And.intro t1 t2))
  have HX := Lib.hid (And.intro x0 (And.intro x1 (And.intro x2 (And.intro x3 x4))))
  subst hvu
  subst hvs
  clear hu hs hno hf hul hS hBB hsz fz r0 r1 r2 hau hav
  rw [hw1] at t0 t1 t2 x0 x1 x2 x3 x4
  have HW1 := Lib.hid hw1
  clear hw1
  go_enter Try.func27, Try.ntmps27
  go_wp2_with fail
  rw [← HW1.out]
  clear t0 t1 t2 x0 x1 x2 x3 x4
  refine (HT.out).mono ?_
  rintro e w2 ⟨⟨fk, rfl, hfi⟩, hb2⟩
  have hs1 := HSZ.out
  have hR1 : w.heap.size + 1 + 1 < w1.heap.size := by omega
  obtain ⟨t0, t1, t2⟩ := HC.out
  obtain ⟨x0, x1, x2, x3, x4⟩ := HX.out
  have t0 := (hb2.cell (p := ⟨w.heap.size, 0, none⟩) (by simp only; omega)).trans t0
  have t1 := (hb2.cell (p := ⟨w.heap.size, 1, none⟩) (by simp only; omega)).trans t1
  have t2 := (hb2.cell (p := ⟨w.heap.size, 2, none⟩) (by simp only; omega)).trans t2
  have x0 := (hb2.cell (p := ⟨w.heap.size + 1, 0, none⟩) (by simp only; omega)).trans x0
  have x1 := (hb2.cell (p := ⟨w.heap.size + 1, 1, none⟩) (by simp only; omega)).trans x1
  have x2 := (hb2.cell (p := ⟨w.heap.size + 1, 2, none⟩) (by simp only; omega)).trans x2
  have x3 := (hb2.cell (p := ⟨w.heap.size + 1, 3, none⟩) (by simp only; omega)).trans x3
  have x4 := (hb2.cell (p := ⟨w.heap.size + 1, 4, none⟩) (by simp only; omega)).trans x4
  have hsz2 := hb2.size
  have HB2 := Lib.hid hb2
  have HU2 := Lib.hid (HU.out.below hb2)
  have HV2 := Lib.hid (HV.out.below hb2)
  have HFI := Lib.hid hfi
  clear hb2 hfi hs1
  have HP := Lib.hid (refRight (w := w2) (vu := .slice au up.length cu) (vs := .slice az S.length cz) n ⟨id, frm, till, k⟩)
  rw [show rightOf n ⟨id, frm, till, k⟩ = true from hr] at HP
  have hfk := HFI.out.none hx
  subst hfk
  have HST := Lib.hid (RefStep.takeLong (n := n) (up := up) (S := S) (d := ⟨kd, ⟨id, frm, till, k⟩⟩) HK.out hr hx hl)
  have dl : decide ((9000 : Int) ≤ (S.length : Int)) = true := by rw [decide_eq_true_iff]; omega
  clear hr hx hl
  go_wp2_with fail
  refine (HP.out).mono ?_
  rintro e w3 ⟨rfl, hb3⟩
  have t0 := (hb3.cell (p := ⟨w.heap.size, 0, none⟩) (by simp only; omega)).trans t0
  have t1 := (hb3.cell (p := ⟨w.heap.size, 1, none⟩) (by simp only; omega)).trans t1
  have t2 := (hb3.cell (p := ⟨w.heap.size, 2, none⟩) (by simp only; omega)).trans t2
  have hbr : Below w1.heap.size w1 w3 := HB2.out.trans (hb3.mono HB2.out.size)
  obtain ⟨r0, r1, r2⟩ := HR.out
  have r0 := (hbr.cell (p := ⟨w.heap.size + 1 + 1, 0, none⟩) hR1).trans r0
  have r1 := (hbr.cell (p := ⟨w.heap.size + 1 + 1, 1, none⟩) hR1).trans r1
  have r2 := (hbr.cell (p := ⟨w.heap.size + 1 + 1, 2, none⟩) hR1).trans r2
  have f0 := (hbr.frozen (p := ⟨w.heap.size + 1 + 1, 0, none⟩) hR1).trans (HFZ.out 0)
  have f1 := (hbr.frozen (p := ⟨w.heap.size + 1 + 1, 1, none⟩) hR1).trans (HFZ.out 1)
  have f2 := (hbr.frozen (p := ⟨w.heap.size + 1 + 1, 2, none⟩) hR1).trans (HFZ.out 2)
  have HBR := Lib.hid hbr
  clear hbr
  clear x0 x1 x2 x3 x4 hb3
  go_wp2_with fail
  obtain ⟨s0, s1, s2⟩ := set3 (a := .int .i64 n) (b := .slice au up.length cu) (c := .slice az S.length cz) r0 r1 r2
  refine bodyPost_ret (v := .tuple #[.agg #[.int .i64 n, .slice au up.length cu, .slice az S.length cz], .slice none 0 0, .int .i64 3]) (by simp [results, Try.f27]; go_simp) rfl ?_
  exact ⟨_, _, _, [], 3, up, S, rfl, IsRow.set3 (HU.out.below HBR.out) HAU.out, IsRow.set3 (HV.out.below HBR.out) HAV.out, HNO.out, isInts_nil _, HST.out, below_set3 (HBB.out.trans (HBR.out.mono HBB.out.size)) (Nat.le_trans (Nat.le_succ _) (Nat.le_succ _)), .inl rfl, .inl rfl, fun X _ => apart_nil X⟩

set_option maxHeartbeats 8000000 in
set_option maxRecDepth 100000 in
theorem step1 {w : World} {vu vs : Value} {n : Int} {up : List Step} {S : List Slot} (hu : IsSteps w vu up) (hs : IsSlots w vs S) (hno : ∀ m c, vs = .slice none m c → c = m) (hf : Fine n up S) (hul : up.length ≤ 1000) (hS : S.Pairwise fun a b => a.id < b.id) (d : Do) (hk : d.kind = 1) (hr : rightOf n d.s = true) (hx : ∀ x ∈ S, x.id ≠ d.s.id) (hl : S.length < 9000) :
    Calls Try.prog 27 #[.agg #[.int .i64 n, vu, vs], doV d] w (RPost w n vu vs up S d) := by
  obtain ⟨kd, id, frm, till, k⟩ := d
  obtain ⟨au, cu, hvu, _, _⟩ := hu.shape
  obtain ⟨az, cz, hvs, _, _⟩ := hs.shape
  unfold doV
  simp only at *
  have e5 : (kd == 5) = false := by simp; omega
  have e1 : (kd == 1) = true := by simpa using hk
  have HK := Lib.hid hk
  clear hk
  have hau : Apart (w.heap.size + 1 + 1) vu := Apart.of_lt hu (by omega)
  have hav : Apart (w.heap.size + 1 + 1) vs := Apart.slots hs (by omega)
  obtain ⟨w1, hw1⟩ : ∃ w1, w1 = (((w.alloc (.cells #[.int .i64 n, vu, vs] 59)).alloc (.cells #[.int .i64 kd, .int .i64 id, .int .i64 frm, .int .i64 till, .int .i64 k] 46)).alloc (.cells #[.int .i64 0, .slice none 0 0, .slice none 0 0] 59)) := ⟨_, rfl⟩
  obtain ⟨hBB, hsz, ⟨t0, t1, t2⟩, ⟨x0, x1, x2, x3, x4⟩, ⟨r0, r1, r2⟩, fz⟩ := pre46 hw1
  have HT := Lib.hid (refFind (w := w1) (vu := vu) n (hs.below hBB) hf.l id)
  have HBB := Lib.hid hBB
  have HSZ := Lib.hid hsz
  have HU := Lib.hid (hu.below hBB)
  have HV := Lib.hid (hs.below hBB)
  have HNO := Lib.hid hno
  have HF := Lib.hid hf
  have HUL := Lib.hid hul
  have HS := Lib.hid hS
  have HAU := Lib.hid hau
  have HAV := Lib.hid hav
  have HFZ := Lib.hid fz
  have HR := Lib.hid (And.intro r0 (And.intro r1 r2))
  have HC := Lib.hid (And.intro t0 (And.intro t1 t2))
  have HX := Lib.hid (And.intro x0 (And.intro x1 (And.intro x2 (And.intro x3 x4))))
  subst hvu
  subst hvs
  clear hu hs hno hf hul hS hBB hsz fz r0 r1 r2 hau hav
  rw [hw1] at t0 t1 t2 x0 x1 x2 x3 x4
  have HW1 := Lib.hid hw1
  clear hw1
  go_enter Try.func27, Try.ntmps27
  go_wp2_with fail
  rw [← HW1.out]
  clear t0 t1 t2 x0 x1 x2 x3 x4
  refine (HT.out).mono ?_
  rintro e w2 ⟨⟨fk, rfl, hfi⟩, hb2⟩
  have hs1 := HSZ.out
  have hR1 : w.heap.size + 1 + 1 < w1.heap.size := by omega
  obtain ⟨t0, t1, t2⟩ := HC.out
  obtain ⟨x0, x1, x2, x3, x4⟩ := HX.out
  have t0 := (hb2.cell (p := ⟨w.heap.size, 0, none⟩) (by simp only; omega)).trans t0
  have t1 := (hb2.cell (p := ⟨w.heap.size, 1, none⟩) (by simp only; omega)).trans t1
  have t2 := (hb2.cell (p := ⟨w.heap.size, 2, none⟩) (by simp only; omega)).trans t2
  have x0 := (hb2.cell (p := ⟨w.heap.size + 1, 0, none⟩) (by simp only; omega)).trans x0
  have x1 := (hb2.cell (p := ⟨w.heap.size + 1, 1, none⟩) (by simp only; omega)).trans x1
  have x2 := (hb2.cell (p := ⟨w.heap.size + 1, 2, none⟩) (by simp only; omega)).trans x2
  have x3 := (hb2.cell (p := ⟨w.heap.size + 1, 3, none⟩) (by simp only; omega)).trans x3
  have x4 := (hb2.cell (p := ⟨w.heap.size + 1, 4, none⟩) (by simp only; omega)).trans x4
  have hsz2 := hb2.size
  have HB2 := Lib.hid hb2
  have HU2 := Lib.hid (HU.out.below hb2)
  have HV2 := Lib.hid (HV.out.below hb2)
  have HFI := Lib.hid hfi
  clear hb2 hfi hs1
  have HP := Lib.hid (refRight (w := w2) (vu := .slice au up.length cu) (vs := .slice az S.length cz) n ⟨id, frm, till, k⟩)
  rw [show rightOf n ⟨id, frm, till, k⟩ = true from hr] at HP
  have hfk := HFI.out.none hx
  subst hfk
  have HP2 := Lib.hid (fun (wx : World) (hb : Below w2.heap.size w2 wx) => refLay (w := wx) (HU2.out.below hb) (HV2.out.below hb) HNO.out HF.out hl ⟨id, frm, till, k⟩ hr)
  have HKK := Lib.hid (And.intro HK.out (And.intro hr (And.intro hx hl)))
  have dl : decide ((9000 : Int) ≤ (S.length : Int)) = false := by simp; omega
  clear hr hx hl
  go_wp2_with fail
  refine (HP.out).mono ?_
  rintro e w3 ⟨rfl, hb3⟩
  have t0 := (hb3.cell (p := ⟨w.heap.size, 0, none⟩) (by simp only; omega)).trans t0
  have t1 := (hb3.cell (p := ⟨w.heap.size, 1, none⟩) (by simp only; omega)).trans t1
  have t2 := (hb3.cell (p := ⟨w.heap.size, 2, none⟩) (by simp only; omega)).trans t2
  have x1 := (hb3.cell (p := ⟨w.heap.size + 1, 1, none⟩) (by simp only; omega)).trans x1
  have x2 := (hb3.cell (p := ⟨w.heap.size + 1, 2, none⟩) (by simp only; omega)).trans x2
  have x3 := (hb3.cell (p := ⟨w.heap.size + 1, 3, none⟩) (by simp only; omega)).trans x3
  have x4 := (hb3.cell (p := ⟨w.heap.size + 1, 4, none⟩) (by simp only; omega)).trans x4
  have HB3 := Lib.hid hb3
  clear x0 hb3
  go_wp2_with fail
  refine (HP2.out _ HB3.out).mono ?_
  rintro e w4 ⟨⟨T, hin, ⟨hrm, v, rfl, hov⟩ | ⟨hrm, rfl⟩⟩, hb4⟩
  · obtain ⟨kk1, kk2, kk3, kk4⟩ := HKK.out
    have HST := Lib.hid (RefStep.take (n := n) (up := up) (S := S) (d := ⟨kd, ⟨id, frm, till, k⟩⟩) kk1 kk2 kk3 kk4 hin hrm)
    obtain ⟨av, cv, rfl, _, _⟩ := hov.is.shape
    obtain ⟨hm1, hm2, z0, z1, z2, zf⟩ := made59 (w := w4) (n := n) (vu := .slice au up.length cu) (vs := .slice av T.length cv) rfl
    have h3 := HB3.out.size
    have HOV := Lib.hid (OwnSlots.wider (B := w1.heap.size) (owns_below hov hm1 : OwnSlots _ _ _ _) (by omega))
    have hbr : Below w1.heap.size w1 (w4.alloc (.cells #[.int .i64 n, .slice au up.length cu, .slice av T.length cv] 59)) := HB2.out.trans ((HB3.out.trans ((hb4.trans (hm1.mono hb4.size)).mono HB3.out.size)).mono HB2.out.size)
    obtain ⟨r0, r1, r2⟩ := HR.out
    have r0 := (hbr.cell (p := ⟨w.heap.size + 1 + 1, 0, none⟩) hR1).trans r0
    have r1 := (hbr.cell (p := ⟨w.heap.size + 1 + 1, 1, none⟩) hR1).trans r1
    have r2 := (hbr.cell (p := ⟨w.heap.size + 1 + 1, 2, none⟩) hR1).trans r2
    have f0 := (hbr.frozen (p := ⟨w.heap.size + 1 + 1, 0, none⟩) hR1).trans (HFZ.out 0)
    have f1 := (hbr.frozen (p := ⟨w.heap.size + 1 + 1, 1, none⟩) hR1).trans (HFZ.out 1)
    have f2 := (hbr.frozen (p := ⟨w.heap.size + 1 + 1, 2, none⟩) hR1).trans (HFZ.out 2)
    have HBR := Lib.hid hbr
    clear hbr
    clear t0 t1 t2 x1 x2 x3 x4 hb4 hm1 hm2 zf hin hrm hov h3 kk1 kk2 kk3 kk4
    go_wp2_with fail
    obtain ⟨s0, s1, s2⟩ := set3 (a := .int .i64 n) (b := .slice au up.length cu) (c := .slice av T.length cv) r0 r1 r2
    refine bodyPost_ret (v := .tuple #[.agg #[.int .i64 n, .slice au up.length cu, .slice av T.length cv], .slice none 0 0, .int .i64 0]) (by simp [results, Try.f27]; go_simp) rfl ?_
    exact ⟨_, _, _, [], 0, up, T, rfl, IsRow.set3 (HU.out.below HBR.out) HAU.out, IsRow.of_owns (owns_set3 HOV.out hR1), HOV.out.no, isInts_nil _, HST.out, below_set3 (HBB.out.trans (HBR.out.mono HBB.out.size)) (Nat.le_trans (Nat.le_succ _) (Nat.le_succ _)), .inl rfl, .inr fun X hX => Apart.own HOV.out (by omega), fun X _ => apart_nil X⟩
  · obtain ⟨kk1, kk2, kk3, kk4⟩ := HKK.out
    have HST := Lib.hid (RefStep.takeRoom (n := n) (up := up) (S := S) (d := ⟨kd, ⟨id, frm, till, k⟩⟩) kk1 kk2 kk3 kk4 hin hrm)
    obtain ⟨hm1, hm2, z0, z1, z2, zf⟩ := made59 (w := w4) (n := n) (vu := .slice au up.length cu) (vs := .slice az S.length cz) rfl
    have hbr : Below w1.heap.size w1 (w4.alloc (.cells #[.int .i64 n, .slice au up.length cu, .slice az S.length cz] 59)) := HB2.out.trans ((HB3.out.trans ((hb4.trans (hm1.mono hb4.size)).mono HB3.out.size)).mono HB2.out.size)
    obtain ⟨r0, r1, r2⟩ := HR.out
    have r0 := (hbr.cell (p := ⟨w.heap.size + 1 + 1, 0, none⟩) hR1).trans r0
    have r1 := (hbr.cell (p := ⟨w.heap.size + 1 + 1, 1, none⟩) hR1).trans r1
    have r2 := (hbr.cell (p := ⟨w.heap.size + 1 + 1, 2, none⟩) hR1).trans r2
    have f0 := (hbr.frozen (p := ⟨w.heap.size + 1 + 1, 0, none⟩) hR1).trans (HFZ.out 0)
    have f1 := (hbr.frozen (p := ⟨w.heap.size + 1 + 1, 1, none⟩) hR1).trans (HFZ.out 1)
    have f2 := (hbr.frozen (p := ⟨w.heap.size + 1 + 1, 2, none⟩) hR1).trans (HFZ.out 2)
    have HBR := Lib.hid hbr
    clear hbr
    clear t0 t1 t2 x1 x2 x3 x4 hb4 hm1 hm2 zf hin hrm kk1 kk2 kk3 kk4
    go_wp2_with fail
    obtain ⟨s0, s1, s2⟩ := set3 (a := .int .i64 n) (b := .slice au up.length cu) (c := .slice az S.length cz) r0 r1 r2
    refine bodyPost_ret (v := .tuple #[.agg #[.int .i64 n, .slice au up.length cu, .slice az S.length cz], .slice none 0 0, .int .i64 70]) (by simp [results, Try.f27]; go_simp) rfl ?_
    exact ⟨_, _, _, [], 70, up, S, rfl, IsRow.set3 (HU.out.below HBR.out) HAU.out, IsRow.set3 (HV.out.below HBR.out) HAV.out, HNO.out, isInts_nil _, HST.out, below_set3 (HBB.out.trans (HBR.out.mono HBB.out.size)) (Nat.le_trans (Nat.le_succ _) (Nat.le_succ _)), .inl rfl, .inl rfl, fun X _ => apart_nil X⟩

set_option maxHeartbeats 8000000 in
set_option maxRecDepth 100000 in
theorem stepNone {w : World} {vu vs : Value} {n : Int} {up : List Step} {S : List Slot} (hu : IsSteps w vu up) (hs : IsSlots w vs S) (hno : ∀ m c, vs = .slice none m c → c = m) (hf : Fine n up S) (hul : up.length ≤ 1000) (hS : S.Pairwise fun a b => a.id < b.id) (d : Do) (hk1 : d.kind ≠ 1) (hk5 : d.kind ≠ 5) (hx : ∀ x ∈ S, x.id ≠ d.s.id) :
    Calls Try.prog 27 #[.agg #[.int .i64 n, vu, vs], doV d] w (RPost w n vu vs up S d) := by
  obtain ⟨kd, id, frm, till, k⟩ := d
  obtain ⟨au, cu, hvu, _, _⟩ := hu.shape
  obtain ⟨az, cz, hvs, _, _⟩ := hs.shape
  unfold doV
  simp only at *
  have e5 : (kd == 5) = false := by simpa using hk5
  have e1 : (kd == 1) = false := by simpa using hk1
  have hau : Apart (w.heap.size + 1 + 1) vu := Apart.of_lt hu (by omega)
  have hav : Apart (w.heap.size + 1 + 1) vs := Apart.slots hs (by omega)
  obtain ⟨w1, hw1⟩ : ∃ w1, w1 = (((w.alloc (.cells #[.int .i64 n, vu, vs] 59)).alloc (.cells #[.int .i64 kd, .int .i64 id, .int .i64 frm, .int .i64 till, .int .i64 k] 46)).alloc (.cells #[.int .i64 0, .slice none 0 0, .slice none 0 0] 59)) := ⟨_, rfl⟩
  obtain ⟨hBB, hsz, ⟨t0, t1, t2⟩, ⟨x0, x1, x2, x3, x4⟩, ⟨r0, r1, r2⟩, fz⟩ := pre46 hw1
  have HT := Lib.hid (refFind (w := w1) (vu := vu) n (hs.below hBB) hf.l id)
  have HBB := Lib.hid hBB
  have HSZ := Lib.hid hsz
  have HU := Lib.hid (hu.below hBB)
  have HV := Lib.hid (hs.below hBB)
  have HNO := Lib.hid hno
  have HF := Lib.hid hf
  have HUL := Lib.hid hul
  have HS := Lib.hid hS
  have HAU := Lib.hid hau
  have HAV := Lib.hid hav
  have HFZ := Lib.hid fz
  have HR := Lib.hid (And.intro r0 (And.intro r1 r2))
  have HC := Lib.hid (And.intro t0 (And.intro t1 t2))
  have HX := Lib.hid (And.intro x0 (And.intro x1 (And.intro x2 (And.intro x3 x4))))
  subst hvu
  subst hvs
  clear hu hs hno hf hul hS hBB hsz fz r0 r1 r2 hau hav
  rw [hw1] at t0 t1 t2 x0 x1 x2 x3 x4
  have HW1 := Lib.hid hw1
  clear hw1
  go_enter Try.func27, Try.ntmps27
  go_wp2_with fail
  rw [← HW1.out]
  clear t0 t1 t2 x0 x1 x2 x3 x4
  refine (HT.out).mono ?_
  rintro e w2 ⟨⟨fk, rfl, hfi⟩, hb2⟩
  have hs1 := HSZ.out
  have hR1 : w.heap.size + 1 + 1 < w1.heap.size := by omega
  obtain ⟨t0, t1, t2⟩ := HC.out
  obtain ⟨x0, x1, x2, x3, x4⟩ := HX.out
  have t0 := (hb2.cell (p := ⟨w.heap.size, 0, none⟩) (by simp only; omega)).trans t0
  have t1 := (hb2.cell (p := ⟨w.heap.size, 1, none⟩) (by simp only; omega)).trans t1
  have t2 := (hb2.cell (p := ⟨w.heap.size, 2, none⟩) (by simp only; omega)).trans t2
  have x0 := (hb2.cell (p := ⟨w.heap.size + 1, 0, none⟩) (by simp only; omega)).trans x0
  have x1 := (hb2.cell (p := ⟨w.heap.size + 1, 1, none⟩) (by simp only; omega)).trans x1
  have x2 := (hb2.cell (p := ⟨w.heap.size + 1, 2, none⟩) (by simp only; omega)).trans x2
  have x3 := (hb2.cell (p := ⟨w.heap.size + 1, 3, none⟩) (by simp only; omega)).trans x3
  have x4 := (hb2.cell (p := ⟨w.heap.size + 1, 4, none⟩) (by simp only; omega)).trans x4
  have hsz2 := hb2.size
  have HB2 := Lib.hid hb2
  have HU2 := Lib.hid (HU.out.below hb2)
  have HV2 := Lib.hid (HV.out.below hb2)
  have HFI := Lib.hid hfi
  clear hb2 hfi hs1
  have hfk := HFI.out.none hx
  subst hfk
  have HST := Lib.hid (RefStep.none (n := n) (up := up) (S := S) (d := ⟨kd, ⟨id, frm, till, k⟩⟩) hk1 hk5 hx)
  clear hk1 hk5 hx
  have hbr : Below w1.heap.size w1 w2 := HB2.out
  obtain ⟨r0, r1, r2⟩ := HR.out
  have r0 := (hbr.cell (p := ⟨w.heap.size + 1 + 1, 0, none⟩) hR1).trans r0
  have r1 := (hbr.cell (p := ⟨w.heap.size + 1 + 1, 1, none⟩) hR1).trans r1
  have r2 := (hbr.cell (p := ⟨w.heap.size + 1 + 1, 2, none⟩) hR1).trans r2
  have f0 := (hbr.frozen (p := ⟨w.heap.size + 1 + 1, 0, none⟩) hR1).trans (HFZ.out 0)
  have f1 := (hbr.frozen (p := ⟨w.heap.size + 1 + 1, 1, none⟩) hR1).trans (HFZ.out 1)
  have f2 := (hbr.frozen (p := ⟨w.heap.size + 1 + 1, 2, none⟩) hR1).trans (HFZ.out 2)
  have HBR := Lib.hid hbr
  clear hbr
  clear x1 x2 x3 x4
  go_wp2_with fail
  obtain ⟨s0, s1, s2⟩ := set3 (a := .int .i64 n) (b := .slice au up.length cu) (c := .slice az S.length cz) r0 r1 r2
  refine bodyPost_ret (v := .tuple #[.agg #[.int .i64 n, .slice au up.length cu, .slice az S.length cz], .slice none 0 0, .int .i64 4]) (by simp [results, Try.f27]; go_simp) rfl ?_
  exact ⟨_, _, _, [], 4, up, S, rfl, IsRow.set3 (HU.out.below HBR.out) HAU.out, IsRow.set3 (HV.out.below HBR.out) HAV.out, HNO.out, isInts_nil _, HST.out, below_set3 (HBB.out.trans (HBR.out.mono HBB.out.size)) (Nat.le_trans (Nat.le_succ _) (Nat.le_succ _)), .inl rfl, .inl rfl, fun X _ => apart_nil X⟩

end Go.Proofs.Ytjknmnmilladlaa
