/-
  Walk of the reference: the times of a profile (layer 9's Times).
-/
import Derived.Test.YtjknmnmilladlaaR2
namespace Go.Proofs.Ytjknmnmilladlaa
open Go.RowKit

def sliceLen : Value → Nat
  | .slice _ n _ => n
  | _ => 0

theorem OwnInts.wider {w : World} {B C : Nat} {v : Value} {l : List Int} (h : OwnInts w C v l) (hB : B ≤ C) : OwnInts w B v l := by
  refine ⟨h.1, ?_⟩
  rcases h.2 with h' | ⟨g, cap, cur, hv, hb, r⟩
  · exact .inl h'
  · exact .inr ⟨g, cap, cur, hv, by omega, r⟩

theorem OwnInts.len {w : World} {B : Nat} {v : Value} {l : List Int} (h : OwnInts w B v l) : sliceLen v = l.length := by
  rcases h.2 with ⟨rfl, h'⟩ | ⟨g, cap, cur, rfl, hb, r⟩
  · simp [sliceLen, h']
  · rfl

theorem OwnInts.grown {w w' : World} {C : Nat} {v : Value} {l : List Int} {row : Option Nat} (h : OwnInts w C v l) (hg : w.grownBy w' row) (hr : ∀ g, row = some g → g < C) : OwnInts w' C v l := by
  refine ⟨h.1, ?_⟩
  rcases h.2 with h' | ⟨g, cap, cur, hv, hb, hgg, r⟩
  · exact .inl h'
  · refine .inr ⟨g, cap, cur, hv, hb, ?_, r⟩
    rw [hg.block g (Array.getElem?_eq_some_iff.1 hgg).1 (fun e => by have := hr g e.symm; omega)]
    exact hgg

theorem OwnInts.two (w : World) (a b : Int) : OwnInts (w.alloc (.cells #[.int .i64 a, .int .i64 b] 3)) w.heap.size (.slice (some ⟨w.heap.size, 0, none⟩) 2 2) [a, b] := by
  refine ⟨rfl, .inr ⟨w.heap.size, 2, #[.int .i64 a, .int .i64 b], rfl, Nat.le_refl _, heap_alloc_new w _, Nat.le_refl _, by unfold maxLen; omega, rfl, rfl⟩⟩

theorem filter_ne_lt {l : List Int} {m : Int} (h : m ∈ l) : (l.filter fun x => !(x == m)).length < l.length := by
  induction l with
  | nil => simp at h
  | cons a t ih =>
    rw [List.filter_cons]
    by_cases hc : a = m
    · subst hc
      have := List.length_filter_le (fun x => !(x == a)) t
      simp
      omega
    · have hm : m ∈ t := by rcases List.mem_cons.1 h with e | e; exact absurd e.symm hc; exact e
      have := ih hm
      have h1 : (!(a == m)) = true := by simpa using hc
      rw [if_pos h1]
      simp only [List.length_cons]
      omega

theorem rising_snoc {l : List Int} {m : Int} (h : l.Pairwise (· < ·)) (h2 : ∀ x ∈ l, x < m) : (l ++ [m]).Pairwise (· < ·) := by
  rw [List.pairwise_append]
  refine ⟨h, List.pairwise_singleton _ _, ?_⟩
  intro x hx y hy
  rw [List.mem_singleton] at hy
  subst hy
  exact h2 x hx

theorem filter_take_succ {l : List Int} {k : Nat} (h : k < l.length) (p : Int → Bool) : (l.take (k + 1)).filter p = (l.take k).filter p ++ (if p (l.getD k default) then [l.getD k default] else []) := by
  rw [List.take_succ_eq_append_getElem h, List.filter_append, List.getD_eq_getElem?_getD, List.getElem?_eq_getElem h]
  simp only [Option.getD_some, List.filter_cons, List.filter_nil]

set_option maxHeartbeats 8000000 in
set_option maxRecDepth 100000 in
theorem refTimes {w : World} {v : Value} {l : List Step} (h : IsSteps w v l) (hp : 0 < l.length) (hl : l.length ≤ 100000) (a b : Int) :
    Calls Try.prog 66 #[v, .slice none 0 0, .int .i64 a, .int .i64 b] w fun e w' => (∃ u ts, e = .returned u ∧ OwnInts w' w.heap.size u ts ∧ ts.Pairwise (· < ·) ∧ (∀ t, t ∈ ts ↔ t ∈ [a, b] ++ stepT l) ∧ ts.length ≤ l.length + 2) ∧ Below w.heap.size w w' := by
  obtain ⟨b0, o0, c0, rfl, p1, p2, p3, C1⟩ := stepAtV h hp
  obtain ⟨N, hN⟩ : ∃ N, N = l.length := ⟨_, rfl⟩
  rw [← hN] at p1 C1 hp hl ⊢
  obtain ⟨A, hA⟩ : ∃ A, A = [a, b] ++ stepT l := ⟨_, rfl⟩
  rw [← hA]
  have HAA := Lib.hid hA
  clear hA
  have HC := Lib.hid C1
  have HN := Lib.hid hN
  obtain ⟨i0, hi, hz0, hz1, hz2⟩ := info_parts Try.info3
  have HTWO := Lib.hid (OwnInts.two w a b)
  have HBT := Lib.hid ((Below.refl w.heap.size w).alloc (Nat.le_refl _) (.cells #[.int .i64 a, .int .i64 b] 3))
  clear h C1 hN
  go_enter Try.func66, Try.ntmps66
  go_wp2_with fail
  go_loopw [9, 10] (fun v9 i wr => ∃ k : Nat, k ≤ N ∧ i = .int .i64 k ∧ Below w.heap.size w wr ∧ OwnInts wr w.heap.size v9 ([a, b] ++ (stepT l).take k)) (fun _ i _ => N - (intOf i).toNat)
  case atStart => exact ⟨0, by omega, rfl, HBT.out, HTWO.out⟩
  case round =>
    obtain ⟨k, hk, rfl, hb, hown⟩ := hrel
    have HB := Lib.hid hb
    by_cases hkN : k < N
    · obtain ⟨x, y, e1, g1, g2⟩ := HC.out k hkN
      have k1 : wr.cell? ⟨b0, o0 + k * 2, none⟩ = some (.int .i64 x) := (hb.cell (p := ⟨b0, o0 + k * 2, none⟩) p3).trans g1
      have hkk : (k : Int) < N := by omega
      have htk := stepT_take l k (by rw [← HN.out]; exact hkN)
      unfold atv at htk
      rw [e1] at htk
      have HTK := Lib.hid htk
      have hlk : ((stepT l).take k).length = k := by simp [stepT, ← HN.out]; omega
      have hsz : w.heap.size ≤ wr.heap.size := hb.size
      generalize hlst : [a, b] ++ (stepT l).take k = lst at *
      have hlen : lst.length = k + 2 := by rw [← hlst, List.length_append, hlk]; simp; omega
      have HLST := Lib.hid hlst
      unfold OwnInts at hown
      rw [hlen] at hown
      have HOW := Lib.hid hown
      clear hb hown g1 g2 e1 htk hlk hlst
      go_wp2_with (at_builtin; refine wpList_append_own _ rfl (.tmp 26) (.tmp 32) 42 rfl w.heap.size 3 i0 _ 1 8 Try.underlying42 hi hz0 hz1 hz2 rfl (by decide) _ _ _ rfl (by exact (HOW.out.alloc _)) ⟨wr.heap.size, 0, none⟩ 1 1 [.int .i64 x] rfl rfl (news_at _ _ rfl #[.int .i64 x] 3) (by simp [Value.oneCell']) (by unfold maxLen; omega) (by omega) (by simp; omega) ?_)
      intro v' w8 hown8 hgrow hnil
      have HO8 := Lib.hid hown8
      have HG8 := Lib.hid hgrow
      clear hown8 hgrow hnil
      go_wp2_with fail
      go_roundw
      case rel =>
        refine ⟨k + 1, by omega, by go_num, (HB.out.alloc hsz _).grown HG8.out (by simp; omega) (fun g hg => ((World.ownsRow.lt HOW.out) g hg).1), ?_⟩
        have := own_int1 HO8.out
        rw [← HLST.out] at this
        rw [HTK.out, ← List.append_assoc]
        exact this
      case measure => simp [intOf]; omega
    · obtain rfl : k = N := by omega
      have hd : decide ((k : Int) < k) = false := by simp
      have hall : (stepT l).take k = stepT l := by rw [List.take_of_length_le]; simp [stepT, ← HN.out]
      rw [hall] at hown
      rw [← HAA.out] at hown
      have hlen : A.length = k + 2 := by rw [HAA.out, List.length_append]; simp [stepT, ← HN.out]; omega
      have HLEN := Lib.hid hlen
      have HOWN := Lib.hid hown
      clear hb hall hlen hown
      obtain ⟨ao, cc, hv9, hva, hvb⟩ := HOWN.out.is.shape
      subst hv9
      go_wp2_with fail
      go_loop [9, 11] (fun v i => v = .slice ao A.length cc ∧ i = .int .i64 0) (fun _ _ => 0)
      case atStart => exact ⟨rfl, rfl⟩
      case round =>
        obtain ⟨rfl, rfl⟩ := hrel
        go_wp2_with fail
        go_loopw [9, 12] (fun v9 v12 wx => ∃ rs dn, OwnInts wx w.heap.size v9 rs ∧ OwnInts wx w.heap.size v12 dn ∧ Below w.heap.size w wx ∧ dn.Pairwise (· < ·) ∧ (∀ x ∈ dn, ∀ y ∈ rs, x < y) ∧ (∀ t, t ∈ dn ∨ t ∈ rs ↔ t ∈ A) ∧ dn.length + rs.length ≤ k + 2) (fun v9 _ _ => sliceLen v9)
        case atStart => exact ⟨A, [], HOWN.out, World.ownsRow_nil _ _ _ _, HB.out, List.Pairwise.nil, by simp, by simp, by simp [HLEN.out]⟩
        case round =>
          obtain ⟨rs, dn, ho9, ho12, hbx, hd1, hd2, hd3, hd4⟩ := hrel
          by_cases hpr : 0 < rs.length
          · obtain ⟨b9, o9, c9, rfl, q1, q2, q3, C9⟩ := intAtV ho9.is hpr
            obtain ⟨M, hM⟩ : ∃ M, M = rs.length := ⟨_, rfl⟩
            rw [← hM] at q1 C9 hpr hd4
            rw [← hM]
            obtain ⟨m0, e0, g0⟩ := C9 0 hpr
            simp only [Nat.add_zero] at g0
            have HC9 := Lib.hid C9
            have HM := Lib.hid hM
            have H9 := Lib.hid ho9
            have H12 := Lib.hid ho12
            have HBX := Lib.hid hbx
            have HD1 := Lib.hid hd1
            have HD2 := Lib.hid hd2
            have HD3 := Lib.hid hd3
            have HE0 := Lib.hid e0
            have dM : decide ((0 : Int) < M) = true := by rw [decide_eq_true_iff]; omega
            have dM0 : (0 : Int) < M := by omega
            clear ho9 ho12 hbx hd1 hd2 hd3 C9 hM e0
            go_wp2_with fail
            go_loop [13, 14] (fun v13 i => ∃ (m : Int) (j : Nat), 0 < j + 1 ∧ j ≤ M ∧ i = .int .i64 j ∧ v13 = .int .i64 m ∧ m ∈ rs ∧ ∀ q, q < j → m ≤ rs.getD q default) (fun _ i => M - (intOf i).toNat)
            case atStart => exact ⟨m0, 0, by omega, by omega, rfl, rfl, by
              rw [← HE0.out, List.getD_eq_getElem?_getD, List.getElem?_eq_getElem (by rw [← HM.out]; exact hpr)]
              exact List.getElem_mem _, by omega⟩
            case round =>
              obtain ⟨m, j, _, hj, rfl, rfl, hm, hmin⟩ := hrel
              by_cases hjM : j < M
              · obtain ⟨y, ey, gy⟩ := HC9.out j hjM
                have HEY := Lib.hid ey
                have HMM := Lib.hid hm
                have HMIN := Lib.hid hmin
                have hjj : (j : Int) < M := by omega
                clear ey hm hmin
                go_wp2_with fail
                go_round
                case rel =>
                  refine ⟨min m y, j + 1, by omega, by omega, by go_num, ?_, ?_, ?_⟩
                  · rfl
                  · rcases Int.le_total m y with h | h
                    · rw [Int.min_eq_left h]; exact HMM.out
                    · rw [Int.min_eq_right h, ← HEY.out, List.getD_eq_getElem?_getD, List.getElem?_eq_getElem (by rw [← HM.out]; exact hjM)]
                      exact List.getElem_mem _
                  · intro q hq
                    by_cases h : q = j
                    · subst h; rw [HEY.out]; exact Int.min_le_right _ _
                    · exact Int.le_trans (Int.min_le_left _ _) (HMIN.out q (by omega))
                case measure => simp [intOf]; omega
              · obtain rfl : j = M := by omega
                have hd : decide ((j : Int) < j) = false := by simp
                have hall : ∀ y ∈ rs, m ≤ y := by
                  intro y hy
                  obtain ⟨q, hq, rfl⟩ := List.getElem_of_mem hy
                  have := hmin q (by rw [HM.out]; exact hq)
                  rw [List.getD_eq_getElem?_getD, List.getElem?_eq_getElem hq] at this
                  exact this
                have HMM := Lib.hid hm
                have HALL := Lib.hid hall
                have hsx : w.heap.size ≤ wr.heap.size := HBX.out.size
                have HSX := Lib.hid hsx
                clear hm hmin hall
                go_wp2_with fail
                go_loopw [15, 16] (fun v15 v16 wy => ∃ q : Nat, q ≤ j ∧ v16 = .int .i64 q ∧ Below wr.heap.size wr wy ∧ OwnInts wy wr.heap.size v15 ((rs.take q).filter fun x => !(x == m))) (fun _ i _ => j - (intOf i).toNat)
                case atStart => exact ⟨0, by omega, rfl, Below.refl _ _, World.ownsRow_nil _ _ _ _⟩
                case round =>
                  obtain ⟨q, hq, rfl, hby, hoy⟩ := hrel
                  have HBY := Lib.hid hby
                  by_cases hqM : q < j
                  · obtain ⟨y, ey, gy⟩ := HC9.out q hqM
                    have gy2 := (hby.cell (p := ⟨b9, o9 + q, none⟩) q3).trans gy
                    have hqq : (q : Int) < j := by omega
                    have hft := filter_take_succ (l := rs) (k := q) (by rw [← HM.out]; exact hqM) (fun x => !(x == m))
                    rw [ey] at hft
                    have hlen0 : ((rs.take q).filter fun x => !(x == m)).length ≤ k + 2 := by
                      have h1 := List.length_filter_le (fun x => !(x == m)) (rs.take q)
                      rw [List.length_take] at h1
                      omega
                    have HFT := Lib.hid hft
                    have hsy := hby.size
                    have HSY := Lib.hid hsy
                    clear gy ey hby hft
                    cases hc : (y == m)
                    · rw [hc] at HFT
                      generalize ((rs.take q).filter fun x => !(x == m)) = lst at *
                      unfold OwnInts at hoy
                      have HOY := Lib.hid hoy
                      clear hoy
                      go_wp2_with (at_builtin; refine wpList_append_own _ rfl (.tmp 78) (.tmp 83) 42 rfl _ 3 i0 _ 1 8 Try.underlying42 hi hz0 hz1 hz2 rfl (by decide) _ _ _ rfl (by exact (HOY.out.alloc _)) ⟨wr.heap.size, 0, none⟩ 1 1 [.int .i64 y] rfl rfl (news_at _ _ rfl #[.int .i64 y] 3) (by simp [Value.oneCell']) (by unfold maxLen; omega) (by omega) (by simp; omega) ?_)
                      intro v' w8 hown8 hgrow hnil
                      have HO8 := Lib.hid hown8
                      have HG8 := Lib.hid hgrow
                      clear hown8 hgrow hnil
                      go_wp2_with fail
                      go_roundw
                      case rel =>
                        refine ⟨q + 1, by omega, by go_num, (HBY.out.alloc HSY.out _).grown HG8.out (by simp; have := HSY.out; omega) (fun g hg => ((World.ownsRow.lt HOY.out) g hg).1), ?_⟩
                        have := own_int1 HO8.out
                        rw [HFT.out]
                        exact this
                      case measure => simp [intOf]; omega
                    · rw [hc] at HFT
                      generalize ((rs.take q).filter fun x => !(x == m)) = lst at *
                      have HOY := Lib.hid hoy
                      clear hoy
                      go_wp2_with fail
                      go_roundw
                      case rel =>
                        refine ⟨q + 1, by omega, by go_num, HBY.out, ?_⟩
                        rw [HFT.out]
                        simpa using HOY.out
                      case measure => simp [intOf]; omega
                  · obtain rfl : q = j := by omega
                    have hd : decide ((q : Int) < q) = false := by simp
                    have hall : rs.take q = rs := by rw [List.take_of_length_le]; rw [HM.out]; exact Nat.le_refl _
                    rw [hall] at hoy
                    have hlt := filter_ne_lt HMM.out
                    have hmf : ∀ t, t ∈ (rs.filter fun x => !(x == m)) ↔ t ∈ rs ∧ t ≠ m := by intro t; simp [List.mem_filter]
                    generalize (rs.filter fun x => !(x == m)) = rs2 at *
                    have HOY := Lib.hid hoy
                    have HLT := Lib.hid hlt
                    have HMF := Lib.hid hmf
                    have ho12 := owns_below H12.out HBY.out
                    have hlt12 := World.ownsRow.lt H12.out
                    have HLT12 := Lib.hid hlt12
                    have hdl : dn.length ≤ k + 2 := by omega
                    have HO12 := Lib.hid ho12
                    have hs1 := HSX.out
                    have hs2 := HBY.out.size
                    have HBW := Lib.hid (HBX.out.trans (HBY.out.mono HSX.out))
                    have hs3 := HBW.out.size
                    have HS3 := Lib.hid hs3
                    clear hoy hlt hmf ho12 hlt12 hby hall
                    go_wp2_with (at_builtin; refine wpList_append_own _ rfl (.tmp 85) (.tmp 87) 42 rfl w.heap.size 3 i0 _ 1 8 Try.underlying42 hi hz0 hz1 hz2 rfl (by decide) _ _ _ rfl (by exact (HO12.out.alloc _)) ⟨wr.heap.size, 0, none⟩ 1 1 [.int .i64 m] rfl rfl (news_at _ _ rfl #[.int .i64 m] 3) (by simp [Value.oneCell']) (by unfold maxLen; omega) (by omega) (by simp; omega) ?_)
                    intro v' w8 hown8 hgrow hnil
                    have HO8 := Lib.hid hown8
                    have HG8 := Lib.hid hgrow
                    clear hown8 hgrow hnil
                    go_wp2_with fail
                    go_roundw
                    case rel =>
                      have hm2 : m ∈ rs := HMM.out
                      refine ⟨rs2, dn ++ [m], ?_, own_int1 HO8.out, (HBW.out.alloc HS3.out _).grown HG8.out (by simp; have := HS3.out; omega) (fun g hg => ((World.ownsRow.lt HO12.out) g hg).1), rising_snoc HD1.out (fun x hx => HD2.out x hx m hm2), ?_, ?_, ?_⟩
                      · exact (((HOY.out.alloc _).grown HG8.out (fun g hg => (HLT12.out g hg).2))).wider HSX.out
                      · intro x hx y hy
                        rw [HMF.out] at hy
                        rcases List.mem_append.1 hx with h | h
                        · exact HD2.out x h y hy.1
                        · rw [List.mem_singleton] at h
                          subst h
                          have h1 := HALL.out y hy.1
                          have h2 := hy.2
                          omega
                      · intro t
                        rw [← HD3.out, HMF.out, List.mem_append, List.mem_singleton]
                        by_cases h : t = m
                        · subst h; simp [hm2]
                        · simp [h]
                      · have h1 := HLT.out
                        rw [← HM.out] at h1
                        rw [List.length_append]
                        simp only [List.length_cons, List.length_nil]
                        omega
                    case measure =>
                      have h1 := HLT.out
                      rw [← HM.out] at h1
                      have h2 := HOY.out.len
                      simp [sliceLen] at h2 ⊢
                      omega
          · have e1 : rs = [] := List.eq_nil_of_length_eq_zero (by omega)
            subst e1
            obtain ⟨a9, c9, rfl, _, _⟩ := ho9.is.shape
            have H12 := Lib.hid ho12
            have HBX := Lib.hid hbx
            have HD1 := Lib.hid hd1
            have HD3 := Lib.hid hd3
            clear ho9 ho12 hbx hd1 hd2 hd3 hpr
            simp only [List.length_nil]
            go_wp2_with fail
            go_ret
            refine ⟨⟨_, dn, rfl, H12.out, HD1.out, fun t => ?_, by simpa using hd4⟩, HBX.out⟩
            rw [← HD3.out]
            simp
end Go.Proofs.Ytjknmnmilladlaa
