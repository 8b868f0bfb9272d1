/-
  Walk of the reference (layer 11): the book's Times.
-/
import Derived.Test.YtjknmnmilladlaaR5
namespace Go.Proofs.Ytjknmnmilladlaa
open Go.RowKit

theorem slotT_take {S : List Slot} {k : Nat} {x y z u : Int} (h : k < S.length) (e : S.getD k default = ⟨x, y, z, u⟩) : slotT (S.take (k + 1)) = slotT (S.take k) ++ [y, z] := by
  rw [List.take_succ_eq_append_getElem h]
  rw [List.getD_eq_getElem?_getD, List.getElem?_eq_getElem h] at e
  simp only [Option.getD_some] at e
  rw [e]
  simp [slotT]
theorem slotT_len (S : List Slot) : (slotT S).length = 2 * S.length := by
  induction S with
  | nil => rfl
  | cons a l ih => simp only [slotT, List.flatMap_cons, List.length_append] at *; rw [ih]; simp; omega

set_option maxHeartbeats 8000000 in
set_option maxRecDepth 100000 in
theorem refTimesB {w : World} {vu vs : Value} {up : List Step} {S : List Slot} (n : Int) (hu : IsSteps w vu up) (hpu : 0 < up.length) (hul : up.length ≤ 20000) (h : IsSlots w vs S) (hS : S.length ≤ 9000) :
    Calls Try.prog 70 #[.agg #[.int .i64 n, vu, vs]] w fun e w' => (∃ u ts, e = .returned u ∧ OwnInts w' w.heap.size u ts ∧ ts.Pairwise (· < ·) ∧ (∀ t, t ∈ ts ↔ t = 0 ∨ t ∈ stepT up ++ slotT S) ∧ ts.length ≤ 38004) ∧ Below w.heap.size w w' := by
  obtain ⟨N, hN⟩ : ∃ N, N = S.length := ⟨_, rfl⟩
  obtain ⟨a1, c1, hvs, p1, p2⟩ := h.shape
  obtain ⟨a0, c0, hvu, _, _⟩ := hu.shape
  have q2 := cell_new w #[.int .i64 n, vu, vs] 59 2 rfl
  have q1 := cell_new w #[.int .i64 n, vu, vs] 59 1 rfl
  have hcl : 0 < N → ∃ b off, a1 = some ⟨b, off, none⟩ ∧ b < w.heap.size ∧ ∀ i, i < N → ∃ x y z u, S.getD i default = ⟨x, y, z, u⟩ ∧ w.cell? ⟨b, off + i * 4 + 1, none⟩ = some (.int .i64 y) ∧ w.cell? ⟨b, off + i * 4 + 2, none⟩ = some (.int .i64 z) := by
    intro hp
    obtain ⟨b, off, cap, e, _, _, hb, hc⟩ := slotAtV h (by rw [← hN]; exact hp)
    rw [hvs] at e
    injection e with e1 e2 e3
    refine ⟨b, off, e1, hb, fun i hi => ?_⟩
    obtain ⟨x, y, z, u, e, _, g1, g2, g3⟩ := hc i (by rw [← hN]; exact hi)
    exact ⟨x, y, z, u, e, g1, g2⟩
  have HCL := Lib.hid hcl
  rw [← hN] at hvs p1 hS
  subst hvs
  have HN := Lib.hid hN
  have hBB := (Below.refl w.heap.size w).alloc (Nat.le_refl _) (.cells #[.int .i64 n, vu, .slice a1 N c1] 59)
  have HBB := Lib.hid hBB
  have hsz1 : (w.alloc (.cells #[.int .i64 n, vu, .slice a1 N c1] 59)).heap.size = w.heap.size + 1 := by simp
  have HT1 := Lib.hid (refTimes (hu.below hBB) hpu (by omega) 0 0)
  rw [hsz1] at HT1
  have HSZ1 := Lib.hid hsz1
  have HUL := Lib.hid hul
  obtain ⟨i0, hi, hz0, hz1, hz2⟩ := info_parts Try.info3
  obtain ⟨j0, hj, hy0, hy1, hy2⟩ := info_parts Try.info38
  have HQ2 := Lib.hid q2
  clear h hN hcl hBB hsz1 hu hpu
  subst hvu
  go_enter Try.func70, Try.ntmps70
  go_wp2_with fail
  refine (HT1.out).mono ?_
  rintro e w1 ⟨⟨v3, ts0, rfl, ho3, hts0, hmem0, hlen0⟩, hb1⟩
  have hlen0b : ts0.length ≤ 20002 := by have := HUL.out; omega
  have HTM := Lib.hid hmem0
  have HO3 := Lib.hid ho3
  have HB1 := Lib.hid hb1
  have HW1 := Lib.hid hb1.size
  have q2' := (hb1.cell (p := ⟨w.heap.size, 2, none⟩) (by simp)).trans q2
  clear ho3 hb1 hmem0 q1 q2 hts0 hlen0 HT1
  obtain ⟨B, hB⟩ : ∃ B, B = w.heap.size := ⟨_, rfl⟩
  have hBw : B + 1 ≤ w1.heap.size := by have := HW1.out; have := HSZ1.out; omega
  have HBE := Lib.hid hB
  rw [← hB] at q2' HO3 HCL ⊢
  have hBB1 : Below (B + 1) w1 w1 := Below.refl _ _
  have HQ2' := Lib.hid q2'
  have hcl : 0 < N → ∃ b off, a1 = some ⟨b, off, none⟩ ∧ b < B ∧ ∀ i, i < N → ∃ x y z u, S.getD i default = ⟨x, y, z, u⟩ ∧ w1.cell? ⟨b, off + i * 4 + 1, none⟩ = some (.int .i64 y) ∧ w1.cell? ⟨b, off + i * 4 + 2, none⟩ = some (.int .i64 z) := by
    intro hp
    obtain ⟨b, off, e1, hb, hc⟩ := HCL.out hp
    refine ⟨b, off, e1, hb, fun i hi => ?_⟩
    obtain ⟨x, y, z, u, e, g1, g2⟩ := hc i hi
    have hbz : b < w.heap.size := by rw [← HBE.out]; exact hb
    have hb2 : b < w.heap.size + 1 := by omega
    exact ⟨x, y, z, u, e, (HB1.out.cell (p := ⟨b, _, none⟩) hb2).trans ((HBB.out.cell (p := ⟨b, _, none⟩) hbz).trans g1), (HB1.out.cell (p := ⟨b, _, none⟩) hb2).trans ((HBB.out.cell (p := ⟨b, _, none⟩) hbz).trans g2)⟩
  have HCL1 := Lib.hid hcl
  clear hB hBB1 q2' hcl HCL
  go_wp2_with fail
  go_loopw [3, 4] (fun v3 v4 wr => ∃ k : Nat, k ≤ N ∧ v4 = .int .i64 k ∧ Below (B + 1) w1 wr ∧ OwnInts wr (B + 1) v3 (ts0 ++ slotT (S.take k))) (fun _ v4 _ => N - (intOf v4).toNat)
  case atStart => exact ⟨0, by omega, rfl, Below.refl _ _, by simpa [slotT] using HO3.out⟩
  case round =>
    obtain ⟨k, hkN, rfl, hb, ho⟩ := hrel
    have HB := Lib.hid hb
    have hsr := hb.size
    have k2 := (hb.cell (p := ⟨B, 2, none⟩) (Nat.lt_succ_self _)).trans HQ2'.out
    by_cases hk : k < N
    · obtain ⟨b, off, rfl, hbb, hc⟩ := HCL1.out (by omega)
      obtain ⟨x, y, z, u, e1, g1, g2⟩ := hc k hk
      have k3 := (hb.cell (p := ⟨b, off + k * 4 + 1, none⟩) (show b < B + 1 by omega)).trans g1
      have k4 := (hb.cell (p := ⟨b, off + k * 4 + 2, none⟩) (show b < B + 1 by omega)).trans g2
      have hkk : (k : Int) < N := by omega
      have HTK := Lib.hid (slotT_take (by rw [← HN.out]; exact hk) e1)
      have hlen : (ts0 ++ slotT (S.take k)).length ≤ 40000 := by
        rw [List.length_append, slotT_len, List.length_take]
        omega
      generalize hl : ts0 ++ slotT (S.take k) = lst at *
      have HL := Lib.hid hl
      unfold OwnInts at ho
      have HOW := Lib.hid ho
      have hne : u3.ownBlock ≠ some b := fun e => by have := ((World.ownsRow.lt HOW.out) b e).1; omega
      have hneB : u3.ownBlock ≠ some B := fun e => by have := ((World.ownsRow.lt HOW.out) B e).1; omega
      have hbwr : b < wr.heap.size := by omega
      have hBwr : B < wr.heap.size := by omega
      clear hb ho hc e1 g1 g2 hl
      go_wp2_with fail
      go_region_held3 (fun w' => w'.cell? ⟨B, 2, none⟩ = some (.slice (some ⟨b, off, none⟩) N c1) ∧ w'.cell? ⟨b, off + k * 4 + 1, none⟩ = some (.int .i64 y) ∧ w'.cell? ⟨b, off + k * 4 + 2, none⟩ = some (.int .i64 z)) (first | go_keep | (go_split_ands; refine ⟨?_, ?_, ?_⟩ <;> (rw [hgrow.cell_far _ (by simp; omega) (by first | exact (Ne.symm hneB) | exact (Ne.symm hne))]; assumption))) ((refine step_append_lies _ (by rfl) _ _ _ (by rfl) (B + 1) 3 i0 _ 1 8 Try.underlying42 hi hz0 hz1 hz2 rfl (by omega) u3 _ _ (by rfl) ((HOW.out.alloc _).drew) ⟨wr.heap.size, 0, none⟩ 2 2 [.int .i64 y, .int .i64 z] (by rfl) (by rfl) (World.news_of_block (cs := #[.int .i64 y, .int .i64 z]) (t := 3) (fr := (0, 0)) (heap_alloc_new wr _)) (by simp [Value.oneCell']) (by omega) (by unfold maxLen; omega) (by omega) (by simp; omega) (wr.heap.size + 1) (by simp) ?_; intro gg cap1 w2 hown1 hgrow hat hlt2))
      have HO8 := Lib.hid hown1
      have HG8 := Lib.hid hgrow
      clear hown1 hgrow hat hlt2
      go_wp2_with fail
      go_roundw
      case rel =>
        refine ⟨k + 1, by omega, by go_num, HB.out.trans (((Below.refl _ _).alloc (by omega) _).drew.grown HG8.out (by simp; omega) (fun g hg => ((World.ownsRow.lt HOW.out) g hg).1)), ?_⟩
        rw [HTK.out, ← List.append_assoc, HL.out]
        exact own_int2 HO8.out
      case measure => simp [intOf]; omega
    · obtain rfl : k = N := by omega
      have hd : decide ((k : Int) < k) = false := by simp
      have hall : S.take k = S := by rw [List.take_of_length_le]; rw [HN.out]; exact Nat.le_refl _
      rw [hall] at ho
      have hlen : (ts0 ++ slotT S).length ≤ 38002 := by
        rw [List.length_append, slotT_len, ← HN.out]
        omega
      have hpos : 0 < (ts0 ++ slotT S).length := by
        have : (0 : Int) ∈ ts0 := by rw [HTM.out]; simp
        have := List.length_pos_of_mem this
        rw [List.length_append]
        omega
      have hmm : ∀ t, t ∈ ts0 ++ slotT S ↔ t = 0 ∨ t ∈ stepT up ++ slotT S := by
        intro t
        rw [List.mem_append, HTM.out, List.mem_append, List.mem_append]
        simp [or_assoc]
      generalize ts0 ++ slotT S = T at *
      obtain ⟨b9, o9, c9, rfl, q1, q2, q3, C9⟩ := intAtV ho.is hpos
      obtain ⟨M, hM⟩ : ∃ M, M = T.length := ⟨_, rfl⟩
      rw [← hM] at q1 C9 hpos hlen
      rw [← hM]
      have HC9 := Lib.hid C9
      have HM := Lib.hid hM
      have HMM := Lib.hid hmm
      have HSR := Lib.hid hsr
      clear hall ho C9 hM hmm hb
      go_wp2_with fail
      go_loopw [5, 6] (fun v5 v6 wy => ∃ q : Nat, q ≤ M ∧ v6 = .int .i64 q ∧ Below wr.heap.size wr wy ∧ OwnSteps wy wr.heap.size v5 ((T.map fun t => (⟨t, 0⟩ : Step)).take q)) (fun _ v6 _ => M - (intOf v6).toNat)
      case atStart => exact ⟨0, by omega, rfl, Below.refl _ _, World.ownsRow_nil _ _ _ _⟩
      case round =>
        obtain ⟨q, hq, rfl, hby, hoy⟩ := hrel
        have HBY := Lib.hid hby
        have HOY := Lib.hid hoy
        have hsy := hby.size
        by_cases hqM : q < M
        · obtain ⟨y, ey, gy⟩ := HC9.out q hqM
          have gy2 := (hby.cell (p := ⟨b9, o9 + q, none⟩) q3).trans gy
          have hqq : (q : Int) < M := by omega
          have hqT : q < T.length := by rw [← HM.out]; exact hqM
          have hsn : ((T.map fun t => (⟨t, 0⟩ : Step)).take (q + 1)) = ((T.map fun t => (⟨t, 0⟩ : Step)).take q) ++ [⟨y, 0⟩] := by
            rw [List.take_succ_eq_append_getElem (by simpa using hqT)]
            rw [List.getD_eq_getElem?_getD, List.getElem?_eq_getElem hqT] at ey
            simp at ey
            simp [ey]
          have hlq : ((T.map fun t => (⟨t, 0⟩ : Step)).take q).length = q := by simp; omega
          generalize ((T.map fun t => (⟨t, 0⟩ : Step)).take q) = lst at *
          have HSN := Lib.hid hsn
          unfold OwnSteps at hoy
          have HOW := Lib.hid hoy
          clear hby hoy gy ey hsn
          go_wp2_with (at_builtin; refine wpList_append_own _ rfl (.tmp 38) (.tmp 44) 33 rfl _ 38 j0 _ 2 16 Try.underlying33 hj hy0 hy1 hy2 rfl (by decide) _ _ _ rfl (by exact (HOW.out.alloc _)) ⟨wr.heap.size, 0, none⟩ 1 1 [.int .i64 y, .int .i64 0] rfl rfl (news_at _ _ rfl #[.int .i64 y, .int .i64 0] 38) (by simp [Value.oneCell']) (by unfold maxLen; omega) (by omega) (by simp; omega) ?_)
          intro v' w8 hown8 hgrow hnil
          have HO8 := Lib.hid hown8
          have HG8 := Lib.hid hgrow
          clear hown8 hgrow hnil
          go_wp2_with fail
          go_roundw
          case rel =>
            refine ⟨q + 1, by omega, by go_num, (HBY.out.alloc hsy _).grown HG8.out (by simp; omega) (fun g hg => ((World.ownsRow.lt HOW.out) g hg).1), ?_⟩
            rw [HSN.out]
            exact own_step1 HO8.out
          case measure => simp [intOf]; omega
        · obtain rfl : q = M := by omega
          have hd : decide ((q : Int) < q) = false := by simp
          have hall : ((T.map fun t => (⟨t, 0⟩ : Step)).take q) = T.map fun t => (⟨t, 0⟩ : Step) := by rw [List.take_of_length_le]; simp [← HM.out]
          rw [hall] at hoy
          have HT := Lib.hid (refTimes hoy.is (by simpa [← HM.out] using hpos) (by simp [← HM.out]; omega) 0 0)
          have hst : stepT (T.map fun t => (⟨t, 0⟩ : Step)) = T := by simp [stepT, Function.comp_def]
          rw [hst] at HT
          clear hby hoy hall hst
          go_wp2_with fail
          refine (HT.out).mono ?_
          rintro e w7 ⟨⟨u, ts, rfl, hou, hri, hme, hln⟩, hb7⟩
          have HOU := Lib.hid hou
          have HRI := Lib.hid hri
          have HME := Lib.hid hme
          have HB7 := Lib.hid hb7
          clear hou hri hme hb7
          go_wp2_with fail
          go_ret
          have hBw2 : B + 1 ≤ wr.heap.size := by have := HSR.out; omega
          have hbb1 : Below B w w1 := by
            have h1 := HBB.out.trans (HB1.out.mono (by omega))
            rw [← HBE.out] at h1
            exact h1
          refine ⟨⟨_, ts, rfl, ?_, HRI.out, ?_, ?_⟩, ?_⟩
          · rw [← HBE.out]
            exact OwnInts.wider HOU.out (by have := HBY.out.size; omega)
          · intro t
            rw [HME.out, ← HMM.out]
            simp
            intro h
            subst h
            exact (HMM.out 0).2 (Or.inl rfl)
          · simp [← HM.out] at hln
            omega
          · rw [← HBE.out]
            have h1 := hbb1.trans (HB.out.mono (Nat.le_succ _))
            have h2 := h1.trans (HBY.out.mono (by omega))
            exact h2.trans (HB7.out.mono (by have := HBY.out.size; omega))

end Go.Proofs.Ytjknmnmilladlaa
