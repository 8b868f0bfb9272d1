/-
  Walks of the reference (layers 1 and 9): Is, free, Check, At, has, tidy.
-/
import Derived.Test.YtjknmnmilladlaaW38
namespace Go.Proofs.Ytjknmnmilladlaa
open Go.RowKit

set_option maxHeartbeats 400000 in
theorem refIs (t : Int) (w : World) (r : Bool) (hr : isT t = r) : Calls Try.prog 54 #[.int .i64 t] w fun e w' => e = .returned (.bool r) ∧ w = w' := by
  have hcs : (decide (0 ≤ t) = false ∧ r = false) ∨ (decide (0 ≤ t) = true ∧ decide (t ≤ 1099511627775) = r) := by
    subst hr
    unfold isT
    by_cases h1 : 0 ≤ t
    · right; simp [h1]
    · left; simp [h1]
  clear hr
  rcases hcs with ⟨h1, rfl⟩ | ⟨h1, h2⟩
  · go_enter Try.func54, Try.ntmps54
    go_wp2_with fail
    go_ret
    exact ⟨rfl, rfl⟩
  · go_enter Try.func54, Try.ntmps54
    go_wp2_with fail
    go_ret
    exact ⟨rfl, rfl⟩

theorem vf_take {l : List Step} {k : Nat} (h : k < l.length) (d t : Int) : vf d (l.take (k + 1)) t = if atv l k ≤ t then frv l k else vf d (l.take k) t := by
  rw [List.take_succ_eq_append_getElem h, vf_append, vf_cons, vf_nil, stepAt l k h]

set_option maxHeartbeats 4000000 in
set_option maxRecDepth 100000 in
theorem refFree {w : World} {v : Value} {l : List Step} (h : IsSteps w v l) (hp : 0 < l.length) (t : Int) :
    Calls Try.prog 94 #[v, .int .i64 t] w fun e w' => e = .returned (.int .i64 (vf 0 l t)) ∧ w = w' := by
  obtain ⟨b, o, c, rfl, p1, p2, p3, C1⟩ := stepAtV h hp
  obtain ⟨N, hN⟩ : ∃ N, N = l.length := ⟨_, rfl⟩
  rw [← hN] at p1 C1 hp ⊢
  obtain ⟨r, hr⟩ : ∃ r, r = vf 0 l t := ⟨_, rfl⟩
  rw [← hr]
  have HR := Lib.hid hr
  have HC := Lib.hid C1
  have HN := Lib.hid hN
  clear h C1 hr hN
  go_enter Try.func94, Try.ntmps94
  go_wp2_with fail
  go_loop [5, 6] (fun n i => ∃ k : Nat, k ≤ N ∧ i = .int .i64 k ∧ n = .int .i64 (vf 0 (l.take k) t)) (fun _ i => N - (intOf i).toNat)
  case atStart => exact ⟨0, by omega, rfl, rfl⟩
  case round =>
    obtain ⟨k, hk, rfl, rfl⟩ := hrel
    by_cases hkN : k < N
    · obtain ⟨x, y, e1, g1, g2⟩ := HC.out k hkN
      have hkk : (k : Int) < N := by omega
      have hnx := vf_take (l := l) (k := k) (by rw [← HN.out]; exact hkN) 0 t
      unfold atv frv at hnx
      rw [e1] at hnx
      simp only at hnx
      have HNX := Lib.hid hnx
      clear e1 hnx
      generalize vf 0 (l.take k) t = vk at *
      cases hc : decide (x ≤ t)
      · have hx : ¬ x ≤ t := by simpa using hc
        have HX := Lib.hid hx
        clear hx
        go_wp2_with fail
        go_round
        case rel => exact ⟨k + 1, by omega, by go_num, by rw [HNX.out, if_neg HX.out]⟩
        case measure => simp [intOf]; omega
      · have hx : x ≤ t := by simpa using hc
        have HX := Lib.hid hx
        clear hx
        go_wp2_with fail
        go_round
        case rel => exact ⟨k + 1, by omega, by go_num, by rw [HNX.out, if_pos HX.out]⟩
        case measure => simp [intOf]; omega
    · obtain rfl : k = N := by omega
      have hd : decide ((k : Int) < k) = false := by simp
      have hall : vf 0 (l.take k) t = r := by rw [HR.out, HN.out, List.take_length]
      rw [hall]
      clear hall
      go_wp2_with fail
      go_ret
      exact ⟨rfl, rfl⟩

set_option maxHeartbeats 8000000 in
set_option maxRecDepth 100000 in
theorem refCheck {w : World} {v : Value} {l : List Step} (h : IsSteps w v l) (hv : Valid l) :
    Calls Try.prog 93 #[v] w fun e w' => e = .returned (.int .i64 0) ∧ Below w.heap.size w w' := by
  obtain ⟨b, o, c, rfl, p1, p2, p3, C1⟩ := stepAtV h hv.pos
  have hp := hv.pos
  have hl := hv.len
  obtain ⟨N, hN⟩ : ∃ N, N = l.length := ⟨_, rfl⟩
  rw [← hN] at p1 C1 hp hl ⊢
  have HC := Lib.hid C1
  have HN := Lib.hid hN
  have HV := Lib.hid hv
  have d1 : decide ((N : Int) < 1) = false := by simp; omega
  have d2 : decide ((20000 : Int) < N) = false := by simp; omega
  clear h C1 hN hv
  go_enter Try.func93, Try.ntmps93
  go_wp2_with fail
  go_loopw [3] (fun i wr => ∃ k : Nat, k ≤ N ∧ i = .int .i64 k ∧ Below w.heap.size w wr) (fun i _ => N - (intOf i).toNat)
  case atStart => exact ⟨0, by omega, rfl, Below.refl _ _⟩
  case round =>
    obtain ⟨k, hk, rfl, hb⟩ := hrel
    have HB := Lib.hid hb
    by_cases hkN : k < N
    · obtain ⟨x, y, e1, g1, g2⟩ := HC.out k hkN
      have hkl : k < l.length := by rw [← HN.out]; exact hkN
      have ht := HV.out.time k hkl
      have hf := HV.out.fr k hkl
      unfold atv at ht
      unfold frv at hf
      rw [e1] at ht hf
      simp only at ht hf
      have k1 : wr.cell? ⟨b, o + k * 2, none⟩ = some (.int .i64 x) := (hb.cell (p := ⟨b, o + k * 2, none⟩) p3).trans g1
      have k2 : wr.cell? ⟨b, o + k * 2 + 1, none⟩ = some (.int .i64 y) := (hb.cell (p := ⟨b, o + k * 2 + 1, none⟩) p3).trans g2
      have hkk : (k : Int) < N := by omega
      have d3 : decide (y < 0) = false := by simp; omega
      have d4 : decide (10000 < y) = false := by simp; omega
      have HT := Lib.hid (isT_iff.2 ht)
      by_cases hk0 : k = 0
      · have hx0 : x = 0 := by
          have := HV.out.zero
          unfold atv at this
          rw [hk0] at e1
          rw [e1] at this
          exact this
        subst hx0
        subst hk0
        simp only [Nat.zero_mul, Nat.add_zero] at k1 k2
        have d5 : (((0 : Nat) : Int) == 0) = true := by simp
        have d6 : decide ((0 : Int) < 0) = false := by simp
        clear hb e1 g1 g2 ht hf
        go_wp2_with fail
        refine (refIs 0 _ true HT.out).mono ?_
        rintro e w2 ⟨rfl, rfl⟩
        go_wp2_with fail
        go_quiet (fail)
        go_wp2_with fail
        go_roundw
        case rel => exact ⟨0 + 1, by omega, by go_num, below_drewN HB.out _⟩
        case measure => simp [intOf]; omega
      · obtain ⟨p, rfl⟩ : ∃ p, k = p + 1 := ⟨k - 1, by omega⟩
        obtain ⟨x0, y0, e0, g3, g4⟩ := HC.out p (by omega)
        have hnx := HV.out.next p hkl
        unfold atv frv at hnx
        rw [e1, e0] at hnx
        simp only at hnx
        have k3 : wr.cell? ⟨b, o + p * 2, none⟩ = some (.int .i64 x0) := (hb.cell (p := ⟨b, o + p * 2, none⟩) p3).trans g3
        have k4 : wr.cell? ⟨b, o + p * 2 + 1, none⟩ = some (.int .i64 y0) := (hb.cell (p := ⟨b, o + p * 2 + 1, none⟩) p3).trans g4
        have d5 : ((p : Int) + 1 == 0) = false := by simp; omega
        have d5' : (((p + 1 : Nat) : Int) == 0) = false := by simp; omega
        have d6 : decide ((0 : Int) < (p : Int) + 1) = true := by rw [decide_eq_true_iff]; omega
        have d7 : decide (x ≤ x0) = false := by simp; omega
        have d8 : (y == y0) = false := by simpa using hnx.2
        have hwp : IntKind.i64.wrap ((p : Int) + 1 - 1) = p := by
          have h1 := small_wrap (a := (p : Int)) (by omega) (by omega)
          have h2 : (p : Int) + 1 - 1 = p := by omega
          rw [h2]
          exact h1
        have hpp : (p : Int) < N := by omega
        clear hb e1 e0 g1 g2 g3 g4 ht hf hnx hk0
        go_wp2_with fail
        refine (refIs x _ true HT.out).mono ?_
        rintro e w2 ⟨rfl, rfl⟩
        go_wp2_with fail
        go_quiet (fail)
        go_wp2_with fail
        go_roundw
        case rel => exact ⟨p + 1 + 1, by omega, by go_num, below_drewN HB.out _⟩
        case measure => simp [intOf]; omega
    · obtain rfl : k = N := by omega
      have hd : decide ((k : Int) < k) = false := by simp
      clear hb
      go_wp2_with fail
      go_ret
      exact ⟨rfl, HB.out⟩

set_option maxHeartbeats 4000000 in
set_option maxRecDepth 100000 in
theorem refAt {w : World} {v : Value} {l : List Step} (h : IsSteps w v l) (hv : Valid l) (t : Int) (ht : isT t = true) :
    Calls Try.prog 67 #[v, .int .i64 t] w fun e w' => e = .returned (.int .i64 (atOf l t)) ∧ Below w.heap.size w w' := by
  have HC := Lib.hid (refCheck h hv)
  have HF := Lib.hid (show ∀ w2, Below w.heap.size w w2 → _ from fun w2 hb => refFree (h.below hb) hv.pos t)
  have HT := Lib.hid ht
  have hval : vf 0 l t = atOf l t := by
    rw [hv.vf (isT_iff.1 ht).1, atOf_val hv (isT_iff.1 ht).1 (isT_iff.1 ht).2]
  rw [hval] at HF
  generalize atOf l t = r at *
  obtain ⟨a1, c1, rfl, _, _⟩ := h.shape
  clear h hv ht hval
  go_enter Try.func67, Try.ntmps67
  go_wp2_with fail
  refine (HC.out).mono ?_
  rintro e w2 ⟨rfl, hb2⟩
  have HB2 := Lib.hid hb2
  clear hb2
  go_wp2_with fail
  refine (refIs t _ true HT.out).mono ?_
  rintro e w3 ⟨rfl, rfl⟩
  go_wp2_with fail
  refine (HF.out _ HB2.out).mono ?_
  rintro e w4 ⟨rfl, rfl⟩
  go_wp2_with fail
  go_ret
  exact ⟨rfl, HB2.out⟩

end Go.Proofs.Ytjknmnmilladlaa
