/-
  Walks: slices.BinarySearchFunc at steps, and steps.place: the last step that begins at a time or before it.
-/
import Derived.Test.YtjknmnmilladlaaW1
namespace Go.Proofs.Ytjknmnmilladlaa
open Go.RowKit

set_option maxHeartbeats 1000000 in
theorem checkAny {w : World} {v : Value} {l : List Step} (h : IsSteps w v l) :
    Calls Try.prog 23 #[v] w fun e w' => e = .returned (.int .i64 (errOf (chk l))) ∧ Below w.heap.size w w' := by
  have hlen : l.length ≤ 9223372036854775807 := IsRow.len h
  by_cases hn : 0 < l.length
  · obtain ⟨b, off, cap, rfl, hnc, hcap, hb, hA, hF, hR⟩ := h.cells hn
    by_cases hl : l.length ≤ 20000
    · by_cases h0 : atv l 0 = 0
      · exact check_loop (atv l) (frv l) b off cap l.length w hn hl h0 hb hA hF
      · have hz : chk l = false := by simp [chk, chkN, h0]
        rw [hz]
        have h00 := hA 0 hn
        simp only [Nat.zero_mul, Nat.add_zero] at h00
        clear hA hF hz hR
        generalize atv l 0 = a0 at *
        generalize l.length = n at *
        clear l h
        have e0 : ((n : Int) == 0) = false := by simp; omega
        have e1 : decide ((20000 : Int) < n) = false := by simp; omega
        have e2 : (a0 != 0) = true := by simpa using h0
        go_enter Try.func23, Try.ntmps23
        go_wp2_with fail
        go_step3
        go_wp2_with fail
        rw [Exit.noGoto_ret]
        go_ret
        exact ⟨rfl, Below.refl _ _⟩
    · have hz : chk l = false := by simp [chk, chkN]; omega
      rw [hz]
      clear hA hF hz hR
      generalize l.length = n at *
      clear l h
      have e0 : ((n : Int) == 0) = false := by simp; omega
      have e1 : decide ((20000 : Int) < n) = true := by simp; omega
      go_enter Try.func23, Try.ntmps23
      go_wp2_with fail
      go_step3
      go_wp2_with fail
      rw [Exit.noGoto_ret]
      go_ret
      exact ⟨rfl, Below.refl _ _⟩
  · have hz : chk l = false := by simp [chk, chkN, hn]
    rw [hz]
    obtain ⟨ao, cap, rfl, _, _⟩ := h.shape
    have hn0 : l.length = 0 := by omega
    rw [hn0]
    clear hz h hlen hn hn0
    go_enter Try.func23, Try.ntmps23
    go_wp2_with fail
    go_step3
    go_wp2_with fail
    rw [Exit.noGoto_ret]
    go_ret
    exact ⟨rfl, Below.refl _ _⟩

set_option maxHeartbeats 400000 in
theorem placeCmp (a f t : Int) (w : World) (h1 : 0 ≤ a) (h2 : a ≤ 1099511627775) (h3 : 0 ≤ t) (h4 : t ≤ 1099511627775) :
    Calls Try.prog 60 #[.agg #[.int .i64 a, .int .i64 f], .int .i64 t] w fun e w' => e = .returned (.int .i64 (a - t)) ∧ Below w.heap.size w w' := by
  go_enter Try.func60, Try.ntmps60
  go_wp2
  go_ret
  exact ⟨rfl, (Below.refl _ _).alloc (Nat.le_refl _) _⟩

def BsPost (A : Nat → Int) (n : Nat) (t : Int) (w : World) (e : Ending) (w' : World) : Prop :=
  ∃ x : Nat, x ≤ n ∧ (∀ z, z < x → A z < t) ∧ (∀ z, x ≤ z → z < n → t ≤ A z) ∧ e = .returned (.tuple #[.int .i64 x, .bool (decide (x < n ∧ A x = t))]) ∧ Below w.heap.size w w'

theorem ret_bs {x : Nat} {b c : Bool} (h : b = c) : Ending.returned (.tuple #[.int .i64 x, .bool b]) = .returned (.tuple #[.int .i64 x, .bool c]) := by rw [h]

set_option maxHeartbeats 1000000 in
theorem bsearch (A F : Nat → Int) (b off cap n : Nat) (t : Int) (w : World) (hn : n ≤ 20000) (hbk : b < w.heap.size) (ht0 : 0 ≤ t) (ht1 : t ≤ 1099511627775)
    (hA : ∀ i, i < n → w.cell? ⟨b, off + i * 2, none⟩ = some (.int .i64 (A i))) (hF : ∀ i, i < n → w.cell? ⟨b, off + i * 2 + 1, none⟩ = some (.int .i64 (F i)))
    (hT : ∀ i, i < n → 0 ≤ A i ∧ A i ≤ 1099511627775) (hS : ∀ i j, i < j → j < n → A i < A j) :
    Calls Try.prog 59 #[.slice (some ⟨b, off, none⟩) n cap, .int .i64 t, .func (.func 60) #[] #[]] w (BsPost A n t w) := by
  have HA := Lib.hid hA; clear hA
  have HF := Lib.hid hF; clear hF
  have HT := Lib.hid hT; clear hT
  have HS := Lib.hid hS; clear hS
  go_enter Try.func59, Try.ntmps59
  go_wp2_with fail
  go_loopw [9, 10] (fun i j wr => ∃ x y : Nat, x ≤ y ∧ y ≤ n ∧ i = .int .i64 x ∧ j = .int .i64 y ∧ Below w.heap.size w wr ∧ (∀ z, z < x → A z < t) ∧ (∀ z, y ≤ z → z < n → t ≤ A z)) (fun i j _ => (intOf j - intOf i).toNat)
  case atStart => exact ⟨0, n, Nat.zero_le _, Nat.le_refl _, rfl, rfl, Below.refl _ _, by omega, by omega⟩
  case round =>
    obtain ⟨x, y, hxy, hyn, rfl, rfl, hb, hlo, hhi⟩ := hrel
    have HLO := Lib.hid hlo; clear hlo
    have HHI := Lib.hid hhi; clear hhi
    by_cases hlt : x < y
    · have hbw : b < wr.heap.size := Nat.lt_of_lt_of_le hbk hb.size
      have hm : (x + y) / 2 < n := by omega
      obtain ⟨am, ham⟩ : ∃ am, am = A ((x + y) / 2) := ⟨_, rfl⟩
      obtain ⟨fm, hfm⟩ : ∃ fm, fm = F ((x + y) / 2) := ⟨_, rfl⟩
      have c1 : wr.cell? ⟨b, off + (x + y) / 2 * 2, none⟩ = some (.int .i64 am) := by rw [ham]; exact (hb.cell (by exact hbk)).trans (HA.out _ hm)
      have c2 : wr.cell? ⟨b, off + (x + y) / 2 * 2 + 1, none⟩ = some (.int .i64 fm) := by rw [hfm]; exact (hb.cell (by exact hbk)).trans (HF.out _ hm)
      have hT := HT.out _ hm
      rw [← ham] at hT
      obtain ⟨hT0, hT1⟩ := hT
      have HAM := Lib.hid ham; clear ham
      clear hfm
      have HB := Lib.hid hb; clear hb
      by_cases hc : am < t
      · go_wp2_with (go_at_call 60; refine (placeCmp am fm t _ hT0 hT1 ht0 ht1).mono ?_; rintro e w1 ⟨rfl, hb1⟩)
        go_roundw
        case rel =>
          refine ⟨(x + y) / 2 + 1, y, by omega, hyn, by go_num, rfl, HB.out.trans (hb1.mono HB.out.size), fun z hz => ?_, HHI.out⟩
          by_cases hz' : z = (x + y) / 2
          · subst hz'; rw [← HAM.out]; exact hc
          · have := HS.out z ((x + y) / 2) (by omega) hm
            rw [← HAM.out] at this
            omega
        case measure => simp [intOf]; omega
      · have hc' : t ≤ am := by omega
        go_wp2_with (go_at_call 60; refine (placeCmp am fm t _ hT0 hT1 ht0 ht1).mono ?_; rintro e w1 ⟨rfl, hb1⟩)
        go_roundw
        case rel =>
          refine ⟨x, (x + y) / 2, by omega, by omega, rfl, by go_num, HB.out.trans (hb1.mono HB.out.size), HLO.out, fun z hz hzn => ?_⟩
          by_cases hz' : z = (x + y) / 2
          · subst hz'; rw [← HAM.out]; exact hc'
          · have := HS.out ((x + y) / 2) z (by omega) hzn
            rw [← HAM.out] at this
            omega
        case measure => simp [intOf]; omega
    · obtain rfl : x = y := by omega
      by_cases hxn : x < n
      · obtain ⟨am, ham⟩ : ∃ am, am = A x := ⟨_, rfl⟩
        obtain ⟨fm, hfm⟩ : ∃ fm, fm = F x := ⟨_, rfl⟩
        have c1 : wr.cell? ⟨b, off + x * 2, none⟩ = some (.int .i64 am) := by rw [ham]; exact (hb.cell (by exact hbk)).trans (HA.out _ hxn)
        have c2 : wr.cell? ⟨b, off + x * 2 + 1, none⟩ = some (.int .i64 fm) := by rw [hfm]; exact (hb.cell (by exact hbk)).trans (HF.out _ hxn)
        have hT := HT.out _ hxn
        rw [← ham] at hT
        obtain ⟨hT0, hT1⟩ := hT
        have HAM := Lib.hid ham; clear ham
        clear hfm
        have HB := Lib.hid hb; clear hb
        go_wp2_with (go_at_call 60; refine (placeCmp am fm t _ hT0 hT1 ht0 ht1).mono ?_; rintro e w1 ⟨rfl, hb1⟩)
        go_ret2
        refine ⟨x, hyn, HLO.out, HHI.out, ret_bs ?_, HB.out.trans (hb1.mono HB.out.size)⟩
        rw [Bool.eq_iff_iff]
        simp only [hxn, true_and, ← HAM.out]
        simp
        omega
      · have HB := Lib.hid hb; clear hb
        go_wp2_with fail
        go_ret2
        refine ⟨x, hyn, HLO.out, HHI.out, ret_bs ?_, HB.out⟩
        simp [hxn]

def PlPost (A : Nat → Int) (n : Nat) (t : Int) (w : World) (e : Ending) (w' : World) : Prop :=
  ∃ p : Nat, p < n ∧ A p ≤ t ∧ (∀ z, p < z → z < n → t < A z) ∧ e = .returned (.int .i64 p) ∧ Below w.heap.size w w'

set_option maxHeartbeats 1000000 in
theorem place_raw (A F : Nat → Int) (b off cap n : Nat) (t : Int) (w : World) (h0n : 0 < n) (hn : n ≤ 20000) (hbk : b < w.heap.size) (ht0 : 0 ≤ t) (ht1 : t ≤ 1099511627775) (hA0 : A 0 = 0)
    (hA : ∀ i, i < n → w.cell? ⟨b, off + i * 2, none⟩ = some (.int .i64 (A i))) (hF : ∀ i, i < n → w.cell? ⟨b, off + i * 2 + 1, none⟩ = some (.int .i64 (F i)))
    (hT : ∀ i, i < n → 0 ≤ A i ∧ A i ≤ 1099511627775) (hS : ∀ i j, i < j → j < n → A i < A j) :
    Calls Try.prog 41 #[.slice (some ⟨b, off, none⟩) n cap, .int .i64 t] w (PlPost A n t w) := by
  have HC := Lib.hid (bsearch A F b off cap n t w hn hbk ht0 ht1 hA hF hT hS)
  have HA0 := Lib.hid hA0; clear hA0
  have HS := Lib.hid hS; clear hS
  clear hA hF hT
  go_enter Try.func41, Try.ntmps41
  go_wp2_with fail
  refine HC.out.mono ?_
  rintro e w1 ⟨x, hx, hlo, hhi, rfl, hb⟩
  have HLO := Lib.hid hlo; clear hlo
  have HHI := Lib.hid hhi; clear hhi
  have HB := Lib.hid hb; clear hb
  by_cases hf : x < n ∧ A x = t
  · have hd : decide (x < n ∧ A x = t) = true := by simpa using hf
    rw [hd]
    have HFF := Lib.hid hf; clear hf hd
    go_wp2_with fail
    go_ret
    refine ⟨x, HFF.out.1, by rw [HFF.out.2]; omega, fun z hz hzn => ?_, rfl, HB.out⟩
    have := HS.out x z hz hzn
    rw [HFF.out.2] at this
    exact this
  · have hd : decide (x < n ∧ A x = t) = false := by simpa using hf
    rw [hd]
    have hx0 : 0 < x := by
      rcases Nat.eq_zero_or_pos x with rfl | h
      · exfalso
        have h1 := HHI.out 0 (Nat.le_refl _) h0n
        rw [HA0.out] at h1
        exact hf ⟨h0n, by rw [HA0.out]; omega⟩
      · exact h
    have HFF := Lib.hid hf; clear hf hd
    go_wp2_with fail
    go_ret
    refine ⟨x - 1, by omega, ?_, fun z hz hzn => ?_, ret_int (by omega), HB.out⟩
    · have := HLO.out (x - 1) (by omega); omega
    · have h1 := HHI.out z (by omega) hzn
      rcases Nat.lt_or_ge x z with h2 | h2
      · have h3 := HS.out x z h2 hzn
        have h4 := HHI.out x (Nat.le_refl _) (by omega)
        omega
      · obtain rfl : z = x := by omega
        have : A z ≠ t := fun h => HFF.out ⟨hzn, h⟩
        omega

end Go.Proofs.Ytjknmnmilladlaa
