/-
  Walks: steps.free, slices.MinFunc at steps, steps.span, steps.Least.
-/
import Derived.Test.YtjknmnmilladlaaW14
import Derived.Test.YtjknmnmilladlaaP4
import Derived.Test.YtjknmnmilladlaaW23
namespace Go.Proofs.Ytjknmnmilladlaa
open Go.RowKit

set_option maxHeartbeats 400000 in
theorem frAny (a x c y : Int) (w : World) (h1 : 0 ≤ x) (h2 : x ≤ 10000) (h3 : 0 ≤ y) (h4 : y ≤ 10000) :
    Calls Try.prog 37 #[.agg #[.int .i64 a, .int .i64 x], .agg #[.int .i64 c, .int .i64 y]] w fun e w' => e = .returned (.int .i64 (x - y)) ∧ Below w.heap.size w w' := by
  go_enter Try.func37, Try.ntmps37
  go_wp2_with fail
  go_ret
  exact ⟨rfl, ((Below.refl _ _).alloc (Nat.le_refl _) _).alloc (by simp) _⟩

def MinPost (l : List Step) (w : World) (e : Ending) (w' : World) : Prop := ∃ s ∈ l, e = .returned (stepV s) ∧ Below w.heap.size w w'

set_option maxHeartbeats 4000000 in
set_option maxRecDepth 100000 in
theorem minFunc {w : World} {v : Value} {l : List Step} (h : IsSteps w v l) (hp : 0 < l.length) (hf : ∀ i, i < l.length → 0 ≤ frv l i ∧ frv l i ≤ 10000) :
    Calls Try.prog 36 #[v, .func (.func 37) #[] #[]] w (MinPost l w) := by
  obtain ⟨b, o, c, rfl, p1, p2, p3, C1⟩ := stepAtV h hp
  obtain ⟨N, hN⟩ : ∃ N, N = l.length := ⟨_, rfl⟩
  have hf2 : ∀ i x y, i < l.length → l.getD i default = ⟨x, y⟩ → 0 ≤ y ∧ y ≤ 10000 := by
    intro i x y hi he
    have := hf i hi
    unfold frv at this
    rw [he] at this
    exact this
  rw [← hN] at p1 C1 hp hf2 ⊢
  obtain ⟨x0, y0, e0, g1, g2⟩ := C1 0 hp
  have HC := Lib.hid C1
  have HN := Lib.hid hN
  have HF := Lib.hid hf2
  have HE := Lib.hid e0
  simp only [Nat.zero_mul, Nat.add_zero] at g1 g2
  have hd : decide ((N : Int) < 1) = false := by simp; omega
  clear h hf C1 hN hf2 e0
  go_enter Try.func36, Try.ntmps36
  go_wp2_with fail
  obtain ⟨H, hH⟩ : ∃ H, H = w.heap.size := ⟨_, rfl⟩
  have HH := Lib.hid hH
  rw [← hH]
  have hs0 : ∀ o u, (#[.int .i64 0, .int .i64 0] : Array Value)[o]? = some u → ((w.alloc (.cells #[.int .i64 0, .int .i64 0] 38)).alloc (.cells #[.int .i64 x0, .int .i64 y0] 38)).cell? ⟨H, o, none⟩ = some u := fun o u hu => by rw [hH]; exact cell_old _ (cell_new w _ 38 o hu)
  have hs1 : ∀ o u, (#[.int .i64 x0, .int .i64 y0] : Array Value)[o]? = some u → ((w.alloc (.cells #[.int .i64 0, .int .i64 0] 38)).alloc (.cells #[.int .i64 x0, .int .i64 y0] 38)).cell? ⟨H + 1, o, none⟩ = some u := fun o u hu => by
    rw [show H + 1 = (w.alloc (.cells #[.int .i64 0, .int .i64 0] 38)).heap.size by simp [hH]]; exact cell_new _ _ 38 o hu
  have hz0 : ∀ o, ((w.alloc (.cells #[.int .i64 0, .int .i64 0] 38)).alloc (.cells #[.int .i64 x0, .int .i64 y0] 38)).frozen? ⟨H, o, none⟩ = false := fun o => by rw [hH]; exact (((Below.refl (w.alloc (.cells #[.int .i64 0, .int .i64 0] 38)).heap.size _).alloc (Nat.le_refl _) _).frozen (p := ⟨w.heap.size, o, none⟩) (by simp)).trans (frozen_new w _ 38 o)
  have hz1 : ∀ o, ((w.alloc (.cells #[.int .i64 0, .int .i64 0] 38)).alloc (.cells #[.int .i64 x0, .int .i64 y0] 38)).frozen? ⟨H + 1, o, none⟩ = false := fun o => by
    rw [show H + 1 = (w.alloc (.cells #[.int .i64 0, .int .i64 0] 38)).heap.size by simp [hH]]; exact frozen_new _ _ 38 o
  have q0 := Lib.hid (hs0 0 _ rfl)
  have q1 := Lib.hid (hs0 1 _ rfl)
  have q2 := Lib.hid (hs1 0 _ rfl)
  have q3 := Lib.hid (hs1 1 _ rfl)
  have z0 := Lib.hid hz0
  have z1 := Lib.hid hz1
  have B0 := Lib.hid (((Below.refl w.heap.size w).alloc (Nat.le_refl _) (.cells #[.int .i64 0, .int .i64 0] 38)).alloc (by simp) (.cells #[.int .i64 x0, .int .i64 y0] 38))
  have hsz : H + 1 < ((w.alloc (.cells #[.int .i64 0, .int .i64 0] 38)).alloc (.cells #[.int .i64 x0, .int .i64 y0] 38)).heap.size := by simp; omega
  have HSZ := Lib.hid hsz
  have hbH : b < H := by omega
  clear hs0 hs1 hz0 hz1 hsz hH g1 g2
  go_loopw [6] (fun i wr => ∃ (k j : Nat) (x y : Int), 1 ≤ k ∧ k ≤ N ∧ i = .int .i64 k ∧ Below w.heap.size w wr ∧ H + 1 < wr.heap.size ∧ wr.cell? ⟨H, 0, none⟩ = some (.int .i64 0) ∧ wr.cell? ⟨H, 1, none⟩ = some (.int .i64 0) ∧ (∀ o, wr.frozen? ⟨H, o, none⟩ = false) ∧ wr.cell? ⟨H + 1, 0, none⟩ = some (.int .i64 x) ∧ wr.cell? ⟨H + 1, 1, none⟩ = some (.int .i64 y) ∧ (∀ o, wr.frozen? ⟨H + 1, o, none⟩ = false) ∧ j < N ∧ l.getD j default = ⟨x, y⟩) (fun i _ => N - (intOf i).toNat)
  case atStart => exact ⟨1, 0, x0, y0, by omega, by omega, rfl, B0.out, HSZ.out, q0.out, q1.out, z0.out, q2.out, q3.out, z1.out, hp, HE.out⟩
  case round =>
    obtain ⟨k, j, x, y, hk1, hk, rfl, hb, hsz, r0, r1, y0, r2, r3, y1, hj, he⟩ := hrel
    have HB := Lib.hid hb
    have HJ := Lib.hid he
    have hxy := HF.out j x y hj he
    by_cases hkN : k < N
    · obtain ⟨z, t, e2, g3, g4⟩ := HC.out k hkN
      have hzt := HF.out k z t hkN e2
      have E2 := Lib.hid e2
      have k1 := After.cell (Nat.lt_trans hbH (by omega)) ((hb.cell (p := ⟨b, o + k * 2, none⟩) (by exact p3)).trans g3)
      have k2 := After.cell (Nat.lt_trans hbH (by omega)) ((hb.cell (p := ⟨b, o + k * 2 + 1, none⟩) (by exact p3)).trans g4)
      have k3 := After.cell hsz r2
      have k4 := After.cell hsz r3
      have hkk : (k : Int) < N := by omega
      clear hb he e2 g3 g4
      cases hc : decide (t - y < 0)
      · go_wp2_with fail
        refine wp_region_quiet_after (by kernel_rfl) (by kernel_rfl) ?_
        repeat (go_big_quiet_step ((go_at_call 37; exact after_of (frAny z t x y _ hzt.1 hzt.2 hxy.1 hxy.2))))
        refine wpQuiet_nil ?_
        intro wq hC
        have hwq := after_out hC
        clear hC
        have HQ := Lib.hid hwq; clear hwq
        go_wp2_with fail
        go_roundw
        case rel =>
          have hh : H < wr.heap.size := by omega
          exact ⟨k + 1, j, x, y, by omega, by omega, by go_num, HB.out.trans (HQ.out.mono HB.out.size), Nat.lt_of_lt_of_le hsz HQ.out.size, (HQ.out.cell (p := ⟨H, 0, none⟩) hh).trans r0, (HQ.out.cell (p := ⟨H, 1, none⟩) hh).trans r1, fun o => (HQ.out.frozen (p := ⟨H, o, none⟩) hh).trans (y0 o), (HQ.out.cell (p := ⟨H + 1, 0, none⟩) hsz).trans r2, (HQ.out.cell (p := ⟨H + 1, 1, none⟩) hsz).trans r3, fun o => (HQ.out.frozen (p := ⟨H + 1, o, none⟩) hsz).trans (y1 o), hj, HJ.out⟩
        case measure => simp [intOf]; omega
      · go_wp2_with fail
        refine wp_region_quiet_after (by kernel_rfl) (by kernel_rfl) ?_
        repeat (go_big_quiet_step ((go_at_call 37; exact after_of (frAny z t x y _ hzt.1 hzt.2 hxy.1 hxy.2))))
        refine wpQuiet_nil ?_
        intro wq hC
        have hwq := after_out hC
        have hbr : b < wr.heap.size := by omega
        have k5 := (hwq.cell (p := ⟨b, o + k * 2, none⟩) hbr).trans (k1 ⟨wr, Below.refl _ _⟩)
        have k6 := (hwq.cell (p := ⟨b, o + k * 2 + 1, none⟩) hbr).trans (k2 ⟨wr, Below.refl _ _⟩)
        have s2 := (hwq.cell (p := ⟨H + 1, 0, none⟩) hsz).trans r2
        have s3 := (hwq.cell (p := ⟨H + 1, 1, none⟩) hsz).trans r3
        have s4 := (hwq.frozen (p := ⟨H + 1, 0, none⟩) hsz).trans (y1 0)
        have s5 := (hwq.frozen (p := ⟨H + 1, 1, none⟩) hsz).trans (y1 1)
        clear hC
        have HQ := Lib.hid hwq; clear hwq
        clear k1 k2 k3 k4
        go_wp2_with fail
        go_roundw
        case rel =>
          have hh : H < wr.heap.size := by omega
          have hle : w.heap.size ≤ H + 1 := by have := HH.out; omega
          have hne : H ≠ H + 1 := by omega
          exact ⟨k + 1, k, z, t, by omega, by omega, by go_num, ((HB.out.trans (HQ.out.mono HB.out.size)).setCell hle _).setCell hle _, by simpa [World.setCell] using Nat.lt_of_lt_of_le hsz HQ.out.size,
            (cell_set_other (.inl hne)).trans ((cell_set_other (.inl hne)).trans ((HQ.out.cell (p := ⟨H, 0, none⟩) hh).trans r0)), (cell_set_other (.inl hne)).trans ((cell_set_other (.inl hne)).trans ((HQ.out.cell (p := ⟨H, 1, none⟩) hh).trans r1)),
            fun o => (frozen_set _).trans ((frozen_set _).trans ((HQ.out.frozen (p := ⟨H, o, none⟩) hh).trans (y0 o))), (cell_set_other (.inr (by decide))).trans (cell_set_same s2), cell_set_same ((cell_set_other (.inr (by decide))).trans s3),
            fun o => (frozen_set _).trans ((frozen_set _).trans ((HQ.out.frozen (p := ⟨H + 1, o, none⟩) hsz).trans (y1 o))), hkN, E2.out⟩
        case measure => simp [intOf]; omega
    · obtain rfl : k = N := by omega
      have hd2 : decide ((k : Int) < k) = false := by simp
      have hsx := y0 0
      have hsy := y0 1
      clear hb he
      go_wp2_with fail
      have f0 : ((wr.setCell ⟨H, 0, none⟩ (.int .i64 x)).setCell ⟨H, 1, none⟩ (.int .i64 y)).cell? ⟨H, 0, none⟩ = some (.int .i64 x) := (cell_set_other (.inr (by decide))).trans (cell_set_same r0)
      have f1 : ((wr.setCell ⟨H, 0, none⟩ (.int .i64 x)).setCell ⟨H, 1, none⟩ (.int .i64 y)).cell? ⟨H, 1, none⟩ = some (.int .i64 y) := cell_set_same ((cell_set_other (.inr (by decide))).trans r1)
      refine bodyPost_ret (v := .agg #[.int .i64 x, .int .i64 y]) (by simp [results, Try.f36]; go_simp) rfl ?_
      have hle : w.heap.size ≤ H := by have := HH.out; omega
      have hjl : j < l.length := by rw [← HN.out]; exact hj
      refine ⟨⟨x, y⟩, ?_, rfl, (HB.out.setCell hle _).setCell hle _⟩
      rw [← HJ.out, List.getD_eq_getElem?_getD, List.getElem?_eq_getElem hjl]
      exact List.getElem_mem hjl

theorem checkT {w : World} {v : Value} {l : List Step} (h : IsSteps w v l) (hc : chk l = true) :
    Calls Try.prog 23 #[v] w fun e w' => e = .returned (.int .i64 0) ∧ Below w.heap.size w w' := (checkAny h).mono fun _ _ ⟨h1, h2⟩ => ⟨by rw [h1, hc]; rfl, h2⟩

def SpanPost (l : List Step) (frm to : Int) (w : World) (e : Ending) (w' : World) : Prop := ∃ v, e = .returned (.tuple #[v, .int .i64 0]) ∧ OwnSteps w' w.heap.size v (cutL l frm to) ∧ Below w.heap.size w w'

set_option maxHeartbeats 4000000 in
set_option maxRecDepth 100000 in
theorem spanYes {w : World} {v : Value} {l : List Step} (h : IsSteps w v l) (hc : chk l = true) (frm to : Int) (t1 : isT frm = true) (t2 : isT to = true) (hlt : frm < to) :
    Calls Try.prog 35 #[v, .int .i64 frm, .int .i64 to] w (SpanPost l frm to w) := by
  have HC := Lib.hid (checkT h hc)
  have HS := Lib.hid h
  have HV := Lib.hid (chk_iff.1 hc)
  have T1 := Lib.hid t1
  have T2 := Lib.hid t2
  have HL := Lib.hid hlt
  have hd : decide (to ≤ frm) = false := by simp; omega
  obtain ⟨ao, cp, rfl, _, _⟩ := h.shape
  clear h hc t1 t2 hlt
  go_enter Try.func35, Try.ntmps35
  go_wp2_with fail
  refine (HC.out).mono ?_
  rintro e w1 ⟨rfl, hb1⟩
  have HCU := Lib.hid (cutAny (HS.out.below hb1) HV.out frm to (isT_iff.1 T1.out).1 (isT_iff.1 T1.out).2 HL.out (isT_iff.1 T2.out).2)
  have HB := Lib.hid hb1
  clear hb1
  go_wp2_with fail
  go_wp2_with fail
  refine (clockT frm _ T1.out).mono ?_
  rintro e w2 ⟨rfl, rfl⟩
  go_wp2_with fail
  refine (clockT to _ T2.out).mono ?_
  rintro e w2 ⟨rfl, rfl⟩
  go_wp2_with fail
  refine (HCU.out).mono ?_
  rintro e w3 ⟨u, rfl, hu, hb3⟩
  have HU := Lib.hid hu
  have HB3 := Lib.hid hb3
  clear hu hb3
  go_wp2_with fail
  go_ret2
  exact ⟨_, rfl, HU.out.mono HB.out.size, HB.out.trans (HB3.out.mono HB.out.size)⟩

def LeastPost (l : List Step) (frm to : Int) (w : World) (e : Ending) (w' : World) : Prop := ∃ s ∈ cutL l frm to, e = .returned (.tuple #[.int .i64 s.free, .int .i64 0]) ∧ Below w.heap.size w w'

set_option maxHeartbeats 4000000 in
set_option maxRecDepth 100000 in
theorem leastYes {w : World} {v : Value} {l : List Step} (h : IsSteps w v l) (hc : chk l = true) (frm to : Int) (t1 : isT frm = true) (t2 : isT to = true) (hlt : frm < to) :
    Calls Try.prog 13 #[v, .int .i64 frm, .int .i64 to] w (LeastPost l frm to w) := by
  have hv := chk_iff.1 hc
  have hlen := (hv.cutL_len (isT_iff.1 t1).1 hlt).1
  have hfr := fun i (hi : i < (cutL l frm to).length) => hv.cutL_fr (isT_iff.1 t1).1 hlt hi
  have HS := Lib.hid (spanYes h hc frm to t1 t2 hlt)
  have HLE := Lib.hid hlen
  have HFR := Lib.hid hfr
  obtain ⟨ao, cp, rfl, _, _⟩ := h.shape
  clear h hc t1 t2 hlt hv hlen hfr
  go_enter Try.func13, Try.ntmps13
  go_wp2_with fail
  refine (HS.out).mono ?_
  rintro e w1 ⟨u, rfl, hu, hb1⟩
  have HM := Lib.hid (minFunc hu.is HLE.out HFR.out)
  have HB := Lib.hid hb1
  clear hu hb1
  go_wp2_with fail
  refine (HM.out).mono ?_
  rintro e w2 ⟨⟨x, y⟩, hs, rfl, hb2⟩
  have HX := Lib.hid hs
  have HB2 := Lib.hid hb2
  clear hs hb2
  unfold stepV
  have hfd : ∀ w : World, (Instr.field 38 (.agg #[.int .i64 x, .int .i64 y]) 1).run Try.prog w = .ok (.int .i64 y) w := fun _ => by kernel_rfl
  go_wp2_with fail
  go_ret2
  exact ⟨_, HX.out, rfl, HB.out.trans (HB2.out.mono HB.out.size)⟩

/-- A number in the cut is the profile's at some time of it. -/
theorem mem_cutL_val {l : List Step} (hv : Valid l) {frm to : Int} (h0 : 0 ≤ frm) (h1 : frm < to) {s : Step} (hs : s ∈ cutL l frm to) : ∃ t, frm ≤ t ∧ t < to ∧ val l t = s.free := by
  have hb := cut_between hv h0 h1 hs
  obtain ⟨i, hi1, hi2, rfl⟩ := mem_cutI hs
  refine ⟨_, hb.1, hb.2, ?_⟩
  simp only
  have hq := hv.plc (show 0 ≤ to - 1 by omega)
  have hp := hv.plc h0
  have : plc l (max (atv l i) frm) = i := by
    refine plc_eq (by omega) (by omega) fun z hz hzl => ?_
    have h2 := hv.rise i z hz hzl
    have h3 := hp.2.2 z (by omega) hzl
    omega
  unfold val
  rw [this]

end Go.Proofs.Ytjknmnmilladlaa
