/-
  Walk: the book's hurt.
-/
import Derived.Test.YtjknmnmilladlaaP6
import Derived.Test.YtjknmnmilladlaaW14
namespace Go.Proofs.Ytjknmnmilladlaa
open Go.RowKit

theorem RangeIs.left_eq {w : World} {bm r : Nat} {L left : List Slot} (h : RangeIs w bm r L left) : w.rangeLeft bm r = left.length := by
  obtain ⟨es, clock, since, seen, c0, hb, hE, hr, _, _, _, hl⟩ := h
  simp only [World.rangeLeft, hb, hr]
  have := congrArg List.length hl
  simpa using this

set_option maxHeartbeats 4000000 in
set_option maxRecDepth 100000 in
theorem hurtAny {w : World} {bk bm : Nat} {n : Int} {up fr : List Step} {L : List Slot} (h : BookIs w bk bm n up fr L) {v : Value} {all : List Step} (hv : IsSteps w v all) (hpos : 0 < all.length) :
    Calls Try.prog 45 #[.pointer (some ⟨bk, 0, none⟩), v] w fun e w' => e = .returned (.int .i64 (hurtOf all L)) ∧ Below w.heap.size w w' := by
  obtain ⟨b, off, cap, rfl, hnc, hcap, hbw, hA, hF, _⟩ := hv.cells hpos
  obtain ⟨N, hN⟩ : ∃ N, N = all.length := ⟨_, rfl⟩
  rw [← hN] at hA hF hnc hpos ⊢
  have c3 := h.c3
  have hlt := h.lt
  have HH := Lib.hid h
  have HA := Lib.hid hA
  have HF := Lib.hid hF
  have HN := Lib.hid hN
  clear h hA hF hv hN
  go_enter Try.func45, Try.ntmps45
  go_wp2_with (at_range; refine wp_range _ rfl _ rfl bm L rfl HH.out.map ?_; intro w0 hr0 hb0 hs0)
  go_frame
  go_loopw [5] (fun ws wr => ∃ dn left, RangeIs wr bm w.heap.size L left ∧ (dn ++ left).Perm L ∧ ws = .int .i64 (hurtOf all dn) ∧ Below w.heap.size w wr) (fun _ wr => wr.rangeLeft bm w.heap.size)
  case atStart => exact ⟨[], L, hr0, List.Perm.refl _, rfl, hb0⟩
  case round =>
    obtain ⟨dn, left, hR, hP, rfl, hB⟩ := hrel
    have HP := Lib.hid hP
    have HB := Lib.hid hB
    clear hP hB hb0 hr0
    go_wp2_with (at_next; refine wp_next _ rfl _ rfl bm w.heap.size L left rfl hR ?_ ?_)
    · intro hl
      subst hl
      go_wp2_with fail
      go_ret
      refine ⟨ret_int (hurtOf_perm all ?_), HB.out⟩
      simpa using HP.out
    · intro s x y w1 hl hR1 hg1 hs1 hen
      subst hl
      clear hs1
      obtain ⟨id, f0, t0, k⟩ := s
      unfold slotV at hen
      simp only at hen
      have HB1 := Lib.hid (HB.out.grown hg1 HB.out.size (fun k hk => by cases hk; exact Nat.le_refl _))
      have HR1 := Lib.hid hR1
      have HM := Lib.hid (show wr.rangeLeft bm w.heap.size = (x ++ ⟨id, f0, t0, k⟩ :: y).length from hR.left_eq)
      have hP1 := perm_step HP.out
      have HP1 := Lib.hid hP1
      generalize hm : hurtOf all dn = m at *
      have HMX := Lib.hid hm
      clear hR hR1 hg1 hP1 hm
      by_cases hid : id ≤ m
      · have hd : decide (id ≤ m) = true := by simpa using hid
        have hnx : hurtOf all (dn ++ [⟨id, f0, t0, k⟩]) = m := by
          rw [hurtOf_snoc, HMX.out]
          unfold mxS
          rw [if_neg (by simp; omega)]
        have HNX := Lib.hid hnx
        clear hid hnx
        go_wp2_with fail
        go_roundw
        case rel => exact ⟨dn ++ [⟨id, f0, t0, k⟩], x ++ y, HR1.out.alloc _, HP1.out, by rw [HNX.out], HB1.out.alloc HB1.out.size _⟩
        case measure => rw [(HR1.out.alloc _).left_eq, HM.out]; simp
      · have hd : decide (id ≤ m) = false := by simpa using hid
        have HID := Lib.hid hid
        clear hid
        go_wp2_with fail
        have K0 := Lib.hid (Below.refl (w1.heap.size + 1) (w1.alloc (.cells #[.int .i64 id, .int .i64 f0, .int .i64 t0, .int .i64 k] 29)))
        have HB2 := Lib.hid (HB1.out.alloc HB1.out.size (.cells #[.int .i64 id, .int .i64 f0, .int .i64 t0, .int .i64 k] 29))
        have HR2 := Lib.hid (HR1.out.alloc (.cells #[.int .i64 id, .int .i64 f0, .int .i64 t0, .int .i64 k] 29))
        have C1 := Lib.hid (cell_new w1 #[.int .i64 id, .int .i64 f0, .int .i64 t0, .int .i64 k] 29 1 rfl)
        have C2 := Lib.hid (cell_new w1 #[.int .i64 id, .int .i64 f0, .int .i64 t0, .int .i64 k] 29 2 rfl)
        have hsz : (w1.alloc (.cells #[.int .i64 id, .int .i64 f0, .int .i64 t0, .int .i64 k] 29)).heap.size = w1.heap.size + 1 := by simp
        generalize w1.alloc (.cells #[.int .i64 id, .int .i64 f0, .int .i64 t0, .int .i64 k] 29) = w2 at *
        have hb1 : bm < w1.heap.size := HR1.out.mapIs.lt
        have hr1 : w.heap.size < w1.heap.size := HR1.out.lt
        generalize hH1 : w1.heap.size = H1 at *
        have HH1 := Lib.hid hH1
        clear hH1 hs0
        go_loopw [5, 25] (fun ws i w3 => ∃ j : Nat, j ≤ N ∧ i = .int .i64 j ∧ ws = .int .i64 m ∧ hitN all ⟨id, f0, t0, k⟩ j = false ∧ Below (H1 + 1) w2 w3) (fun _ i _ => N - (intOf i).toNat)
        case atStart => exact ⟨0, Nat.zero_le _, rfl, rfl, rfl, K0.out⟩
        case round =>
          obtain ⟨j, hj, rfl, rfl, hno, hB3⟩ := hrel
          have HNO := Lib.hid hno
          have HB3 := Lib.hid hB3
          have hl3 : w.heap.size ≤ H1 + 1 := by have := HB2.out.size; omega
          have HB4 := Lib.hid (HB2.out.trans (hB3.mono hl3))
          have HR3 := Lib.hid (HR2.out.below hB3 (by omega) (by omega))
          have c1 : wr.cell? ⟨H1, 1, none⟩ = some (.int .i64 f0) := (hB3.cell (p := ⟨H1, 1, none⟩) (Nat.lt_succ_self _)).trans C1.out
          have c2 : wr.cell? ⟨H1, 2, none⟩ = some (.int .i64 t0) := (hB3.cell (p := ⟨H1, 2, none⟩) (Nat.lt_succ_self _)).trans C2.out
          by_cases hjn : j < N
          · have hAj : wr.cell? ⟨b, off + j * 2, none⟩ = some (.int .i64 (atv all j)) := (HB4.out.cell (p := ⟨b, off + j * 2, none⟩) hbw).trans (HA.out j hjn)
            have hFj : wr.cell? ⟨b, off + j * 2 + 1, none⟩ = some (.int .i64 (frv all j)) := (HB4.out.cell (p := ⟨b, off + j * 2 + 1, none⟩) hbw).trans (HF.out j hjn)
            have hjj : (j : Int) < N := by omega
            have hH1ne : H1 ≠ wr.heap.size := by have := World.block_lt_of_cell? wr _ c1; simp at this; omega
            have hN63 : N ≤ 9223372036854775807 := by unfold maxLen at hcap; omega
            have H3SZ := Lib.hid (show H1 + 1 ≤ wr.heap.size by have := hB3.size; omega)
            have hsucc := hitN_succ all ⟨id, f0, t0, k⟩ j
            have hlN : hitN all ⟨id, f0, t0, k⟩ (j + 1) = true → hitS all ⟨id, f0, t0, k⟩ = true := fun hh => hitN_mono all _ (by have := HN.out; omega) hh
            have HLN := Lib.hid hlN
            have h3lt : H1 < wr.heap.size := World.block_lt_of_cell? wr _ c1
            rw [hno, Bool.false_or] at hsucc
            clear hlN hno hB3 hl3 hb1 hr1 hsz
            generalize atv all j = aj at *
            generalize frv all j = fj at *
            cases d1 : decide (0 < fj)
            · have hx : hitX ⟨id, f0, t0, k⟩ aj fj = false := by simp [hitX, d1]
              rw [hx] at hsucc
              have HSU := Lib.hid hsucc
              clear hx hsucc
              go_wp2_with fail
              go_roundw
              case rel => exact ⟨j + 1, by omega, by go_num, rfl, HSU.out, HB3.out.alloc H3SZ.out _⟩
              case measure => simp [intOf]; omega
            cases d2 : decide (f0 ≤ aj)
            · have hx : hitX ⟨id, f0, t0, k⟩ aj fj = false := by simp [hitX, d2]
              rw [hx] at hsucc
              have HSU := Lib.hid hsucc
              clear hx hsucc
              go_wp2_with fail
              go_roundw
              case rel => exact ⟨j + 1, by omega, by go_num, rfl, HSU.out, HB3.out.alloc H3SZ.out _⟩
              case measure => simp [intOf]; omega
            cases d3 : decide (aj < t0)
            · have hx : hitX ⟨id, f0, t0, k⟩ aj fj = false := by simp [hitX, d3]
              rw [hx] at hsucc
              have HSU := Lib.hid hsucc
              clear hx hsucc
              go_wp2_with fail
              go_roundw
              case rel => exact ⟨j + 1, by omega, by go_num, rfl, HSU.out, HB3.out.alloc H3SZ.out _⟩
              case measure => simp [intOf]; omega
            · have hx : hitX ⟨id, f0, t0, k⟩ aj fj = true := by simp [hitX, d1, d2, d3]
              rw [hx] at hsucc
              have hnx : hurtOf all (dn ++ [⟨id, f0, t0, k⟩]) = id := by
                rw [hurtOf_snoc, HMX.out]
                unfold mxS
                rw [if_pos ⟨HID.out, HLN.out hsucc⟩]
              have HNX := Lib.hid hnx
              have HR4 := Lib.hid (HR3.out.alloc (.cells #[.int .i64 aj, .int .i64 fj] 38))
              have HB5 := Lib.hid (HB4.out.alloc HB4.out.size (.cells #[.int .i64 aj, .int .i64 fj] 38))
              clear hx hsucc hnx
              go_wp2_with fail
              go_roundw
              case rel => exact ⟨dn ++ [⟨id, f0, t0, k⟩], x ++ y, HR4.out, HP1.out, by rw [HNX.out], HB5.out⟩
              case measure => rw [HR4.out.left_eq, HM.out]; simp
          · obtain rfl : j = N := by omega
            have hd2 : decide ((j : Int) < j) = false := by simp
            have hnx : hurtOf all (dn ++ [⟨id, f0, t0, k⟩]) = m := by
              rw [hurtOf_snoc, HMX.out]
              unfold mxS
              rw [if_neg]
              rintro ⟨_, hh⟩
              unfold hitS at hh
              rw [← HN.out, hno] at hh
              cases hh
            have HNX := Lib.hid hnx
            clear hnx hno hB3
            go_wp2_with fail
            go_roundw
            case rel => exact ⟨dn ++ [⟨id, f0, t0, k⟩], x ++ y, HR3.out, HP1.out, by rw [HNX.out], HB4.out⟩
            case measure => rw [HR3.out.left_eq, HM.out]; simp

end Go.Proofs.Ytjknmnmilladlaa
