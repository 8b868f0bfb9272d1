/-
  Walks: steps.Tidy of steps whose times rise.
-/
import Derived.Test.YtjknmnmilladlaaW6
import Derived.Test.YtjknmnmilladlaaP2
namespace Go.Proofs.Ytjknmnmilladlaa
open Go.RowKit

theorem IsSteps.rowA {w : World} {v : Value} {l : List Step} (h : IsSteps w v l) (hn : 0 < l.length) :
    ∃ b off cap, v = .slice (some ⟨b, off, none⟩) l.length cap ∧ l.length ≤ cap ∧ cap ≤ 9223372036854775807 ∧ RowA (atv l) (frv l) b off l.length w := by
  obtain ⟨b, off, cap, rfl, h1, h2, hb, hA, hF, _⟩ := h.cells hn
  unfold maxLen at h2
  exact ⟨b, off, cap, rfl, h1, by omega, hb, hA, hF⟩

def TidyPost (l : List Step) (w : World) (e : Ending) (w' : World) : Prop := (∃ v, e = .returned v ∧ OwnSteps w' w.heap.size v (tidy l)) ∧ Below w.heap.size w w'

set_option maxHeartbeats 2000000 in
set_option maxRecDepth 100000 in
theorem tidyAny {w : World} {v : Value} {l : List Step} (h : IsSteps w v l) (hl0 : 0 < l.length) (hl : l.length ≤ 40000) (hS : ∀ i j, i < j → j < l.length → atv l i < atv l j) :
    Calls Try.prog 63 #[v] w (TidyPost l w) := by
  have HC := Lib.hid (cloneAny h hl)
  clear h
  have HS := Lib.hid hS; clear hS
  obtain ⟨i0, hi, hz0, hz1, hz2⟩ := info_parts Try.info38
  go_enter Try.func63, Try.ntmps63
  go_wp2_with fail
  go_step3
  go_wp2_with fail
  refine (HC.out).mono ?_
  rintro e w1 ⟨⟨v1, rfl, hown⟩, hb1⟩
  obtain ⟨b, off, cap, rfl, hnc, hcap, hR⟩ := hown.is.rowA hl0
  clear hown HC
  have HI := Lib.hid (sortStableSorted (atv l) (frv l) b off cap l.length w1 (by omega) hR HS.out)
  generalize hn : l.length = n at *
  have HN := Lib.hid hn; clear hn
  go_wp2_with fail
  refine (HI.out).mono ?_
  rintro e w2 ⟨rfl, hb2⟩
  have hR2 := hR.below hb2 hR.lt
  have hb12 := hb1.trans (hb2.mono hb1.size)
  have HR := Lib.hid hR2
  have hbw2 := hR2.lt
  clear hR2 hR HI hb1 hb2
  have hw2 := hb12.size
  have HBW := Lib.hid hb12; clear hb12
  go_wp2_with fail
  go_step3
  go_wp2_with fail
  go_loopw [4, 14] (fun o i wr => ∃ k : Nat, k ≤ n ∧ i = .int .i64 k ∧ Below w2.heap.size w2 wr ∧ OwnSteps wr w2.heap.size o (tidyN l k)) (fun _ i _ => n - (intOf i).toNat)
  case atStart => exact ⟨0, by omega, rfl, Below.refl _ _, World.ownsRow_nil _ _ _ _⟩
  case round =>
    obtain ⟨k, hk, rfl, hb, hown⟩ := hrel
    have HOWN := Lib.hid hown; clear hown
    by_cases hkn : k < n
    · have hR := HR.out.below hb hbw2
      have hbw := hR.lt
      have hwr := hb.size
      obtain ⟨ak, hak⟩ : ∃ am, am = atv l k := ⟨_, rfl⟩
      obtain ⟨fk, hfk⟩ : ∃ fm, fm = frv l k := ⟨_, rfl⟩
      have c1 := hR.at_ k hkn
      have c2 := hR.fr k hkn
      rw [← hak] at c1
      rw [← hfk] at c2
      have HB := Lib.hid hb; clear hb
      have hts := tidyN_succ l k (by rw [HN.out]; exact hkn)
      have hln := length_tidyN l k
      rw [← hak, ← hfk] at hts
      have HTS := Lib.hid hts; clear hts
      have hkk : (k : Int) < n := by omega
      generalize htk : tidyN l k = o at *
      by_cases hlast : k + 1 < n
      · have hn1 : (k : Int) + 1 < n := by omega
        obtain ⟨a1, ha1⟩ : ∃ am, am = atv l (k + 1) := ⟨_, rfl⟩
        obtain ⟨f1, hf1⟩ : ∃ am, am = frv l (k + 1) := ⟨_, rfl⟩
        have c3 := hR.at_ (k + 1) hlast
        have c4 := hR.fr (k + 1) hlast
        rw [← ha1] at c3
        rw [← hf1] at c4
        have hrise := HS.out k (k + 1) (by omega) hlast
        rw [← hak, ← ha1] at hrise
        have hne : (a1 == ak) = false := by simp; omega
        have hd1 : decide ((k : Int) + 1 < n) = true := by simp; omega
        clear hak hfk ha1 hf1 hR hrise
        by_cases ho : o.length = 0
        · obtain rfl : o = [] := List.eq_nil_of_length_eq_zero ho
          obtain ⟨ao, c0, hv0, hc0, hc1⟩ := (IsRow.of_owns HOWN.out).shape
          have hv0' : u4 = .slice ao 0 c0 := hv0
          subst hv0'
          have hlz : ([] : List Step).length + 1 ≤ 40000 := by simp
          clear hv0 hc0 ho
          go_wp2_with fail
          go_quiet (fail)
          go_wp2_with fail
          go_quiet (fail)
          go_wp2_with (at_builtin; refine wpList_append_own _ rfl (.tmp 50) (.tmp 52) 33 rfl w2.heap.size 38 i0 _ 2 16 Try.underlying33 hi hz0 hz1 hz2 rfl (by decide) _ _ _ rfl (by exact (HOWN.out.alloc _).alloc _) ⟨wr.heap.size + 1, 0, none⟩ 1 1 [.int .i64 ak, .int .i64 fk] rfl rfl (news_at _ _ (by simp) #[.int .i64 ak, .int .i64 fk] 38) (by simp [Value.oneCell']) (by unfold maxLen; omega) (by omega) (by simp; omega) ?_)
          intro v' w3 hown3 hgrow hnil
          have HO3 := Lib.hid hown3; clear hown3 hnil
          have HG := Lib.hid hgrow; clear hgrow
          go_wp2_with fail
          go_roundw
          case rel =>
            have hB3 : Below w2.heap.size w2 w3 := ((below_drewN (HB.out.alloc hwr _) _).alloc (by simp; omega) _).grown HG.out (by simp; omega) (fun g hg => ((World.ownsRow.lt HOWN.out) g hg).1)
            refine ⟨k + 1, by omega, by go_num, hB3, ?_⟩
            rw [HTS.out, show tidyStep [] ⟨ak, fk⟩ = [] ++ [⟨ak, fk⟩] from rfl]
            unfold OwnSteps
            rw [flatS_append, List.length_append]
            exact HO3.out
          case measure => simp [intOf]; omega
        · obtain ⟨g, off2, cap2, rfl, hc0, hc1, hgb, hgA, hgF, hgR⟩ := (OwnSteps.is HOWN.out).cells (by omega)
          unfold maxLen at hc1
          obtain ⟨q, hq⟩ : ∃ q, o.length = q + 1 := ⟨o.length - 1, by omega⟩
          obtain ⟨lf, hlf⟩ : ∃ lf, lf = lastFree o := ⟨_, rfl⟩
          have c5 := hgF q (by omega)
          rw [show frv o q = lf by rw [hlf]; unfold lastFree; rw [hq]; rfl] at c5
          have HQ := Lib.hid hq
          rw [hq] at hc0
          have hm1 : ((q : Int) + 1 == 0) = false := by simp; omega
          have hqb : q ≤ 40000 := by omega
          clear hgA hgF hgR ho
          have hon := HOWN.out
          unfold OwnSteps at hon
          rw [hq] at hon
          have HON := Lib.hid hon
          clear hon
          rw [hq]
          clear hq
          have hqp : 0 < o.length := by rw [HQ.out]; omega
          by_cases hdup : lf = fk
          · have hdd : (lf != fk) = false := by simp [hdup]
            have hss : tidyStep o ⟨ak, fk⟩ = o := by unfold tidyStep; exact if_pos ⟨hqp, by rw [← hlf]; exact hdup⟩
            have HSS := Lib.hid hss; clear hss hdup hlf hqp
            go_wp2_with fail
            go_quiet (fail)
            go_wp2_with fail
            go_quiet (fail)
            go_wp2_with fail
            go_roundw
            case rel =>
              refine ⟨k + 1, by omega, by go_num, below_drewN (HB.out.alloc hwr _) _, ?_⟩
              rw [HTS.out, HSS.out]
              have := HON.out
              unfold OwnSteps
              rw [HQ.out]
              exact this.alloc _
            case measure => simp [intOf]; omega
          · have hdd : (lf != fk) = true := by simp [hdup]
            have hss : tidyStep o ⟨ak, fk⟩ = o ++ [⟨ak, fk⟩] := by unfold tidyStep; exact if_neg (fun h => hdup (by rw [hlf]; exact h.2))
            have HSS := Lib.hid hss; clear hss hdup hlf hqp
            go_wp2_with fail
            go_quiet (fail)
            go_wp2_with fail
            go_quiet (fail)
            go_wp2_with (at_builtin; refine wpList_append_own _ rfl (.tmp 50) (.tmp 52) 33 rfl w2.heap.size 38 i0 _ 2 16 Try.underlying33 hi hz0 hz1 hz2 rfl (by decide) _ _ _ rfl (by exact (HON.out.alloc _).alloc _) ⟨wr.heap.size + 1, 0, none⟩ 1 1 [.int .i64 ak, .int .i64 fk] rfl rfl (news_at _ _ (by simp) #[.int .i64 ak, .int .i64 fk] 38) (by simp [Value.oneCell']) (by unfold maxLen; omega) (by omega) (by simp; omega) ?_)
            intro v' w3 hown3 hgrow hnil
            have HO3 := Lib.hid hown3; clear hown3 hnil
            have HG := Lib.hid hgrow; clear hgrow
            go_wp2_with fail
            go_roundw
            case rel =>
              have hB3 : Below w2.heap.size w2 w3 := ((below_drewN (HB.out.alloc hwr _) _).alloc (by simp; omega) _).grown HG.out (by simp; omega) (fun g hg => ((World.ownsRow.lt HOWN.out) g hg).1)
              refine ⟨k + 1, by omega, by go_num, hB3, ?_⟩
              rw [HTS.out, HSS.out]
              unfold OwnSteps
              rw [flatS_append, List.length_append, HQ.out]
              exact HO3.out
            case measure => simp [intOf]; omega
      · have hd1 : decide ((k : Int) + 1 < n) = false := by simp; omega
        clear hak hfk hR
        by_cases ho : o.length = 0
        · obtain rfl : o = [] := List.eq_nil_of_length_eq_zero ho
          obtain ⟨ao, c0, hv0, hc0, hc1⟩ := (IsRow.of_owns HOWN.out).shape
          have hv0' : u4 = .slice ao 0 c0 := hv0
          subst hv0'
          have hlz : ([] : List Step).length + 1 ≤ 40000 := by simp
          clear hv0 hc0 ho
          go_wp2_with fail
          go_quiet (fail)
          go_wp2_with fail
          go_quiet (fail)
          go_wp2_with (at_builtin; refine wpList_append_own _ rfl (.tmp 50) (.tmp 52) 33 rfl w2.heap.size 38 i0 _ 2 16 Try.underlying33 hi hz0 hz1 hz2 rfl (by decide) _ _ _ rfl (by exact (HOWN.out.alloc _).alloc _) ⟨wr.heap.size + 1, 0, none⟩ 1 1 [.int .i64 ak, .int .i64 fk] rfl rfl (news_at _ _ (by simp) #[.int .i64 ak, .int .i64 fk] 38) (by simp [Value.oneCell']) (by unfold maxLen; omega) (by omega) (by simp; omega) ?_)
          intro v' w3 hown3 hgrow hnil
          have HO3 := Lib.hid hown3; clear hown3 hnil
          have HG := Lib.hid hgrow; clear hgrow
          go_wp2_with fail
          go_roundw
          case rel =>
            have hB3 : Below w2.heap.size w2 w3 := ((below_drewN (HB.out.alloc hwr _) _).alloc (by simp; omega) _).grown HG.out (by simp; omega) (fun g hg => ((World.ownsRow.lt HOWN.out) g hg).1)
            refine ⟨k + 1, by omega, by go_num, hB3, ?_⟩
            rw [HTS.out, show tidyStep [] ⟨ak, fk⟩ = [] ++ [⟨ak, fk⟩] from rfl]
            unfold OwnSteps
            rw [flatS_append, List.length_append]
            exact HO3.out
          case measure => simp [intOf]; omega
        · obtain ⟨g, off2, cap2, rfl, hc0, hc1, hgb, hgA, hgF, hgR⟩ := (OwnSteps.is HOWN.out).cells (by omega)
          unfold maxLen at hc1
          obtain ⟨q, hq⟩ : ∃ q, o.length = q + 1 := ⟨o.length - 1, by omega⟩
          obtain ⟨lf, hlf⟩ : ∃ lf, lf = lastFree o := ⟨_, rfl⟩
          have c5 := hgF q (by omega)
          rw [show frv o q = lf by rw [hlf]; unfold lastFree; rw [hq]; rfl] at c5
          have HQ := Lib.hid hq
          rw [hq] at hc0
          have hm1 : ((q : Int) + 1 == 0) = false := by simp; omega
          have hqb : q ≤ 40000 := by omega
          clear hgA hgF hgR ho
          have hon := HOWN.out
          unfold OwnSteps at hon
          rw [hq] at hon
          have HON := Lib.hid hon
          clear hon
          rw [hq]
          clear hq
          have hqp : 0 < o.length := by rw [HQ.out]; omega
          by_cases hdup : lf = fk
          · have hdd : (lf != fk) = false := by simp [hdup]
            have hss : tidyStep o ⟨ak, fk⟩ = o := by unfold tidyStep; exact if_pos ⟨hqp, by rw [← hlf]; exact hdup⟩
            have HSS := Lib.hid hss; clear hss hdup hlf hqp
            go_wp2_with fail
            go_quiet (fail)
            go_wp2_with fail
            go_quiet (fail)
            go_wp2_with fail
            go_roundw
            case rel =>
              refine ⟨k + 1, by omega, by go_num, below_drewN (HB.out.alloc hwr _) _, ?_⟩
              rw [HTS.out, HSS.out]
              have := HON.out
              unfold OwnSteps
              rw [HQ.out]
              exact this.alloc _
            case measure => simp [intOf]; omega
          · have hdd : (lf != fk) = true := by simp [hdup]
            have hss : tidyStep o ⟨ak, fk⟩ = o ++ [⟨ak, fk⟩] := by unfold tidyStep; exact if_neg (fun h => hdup (by rw [hlf]; exact h.2))
            have HSS := Lib.hid hss; clear hss hdup hlf hqp
            go_wp2_with fail
            go_quiet (fail)
            go_wp2_with fail
            go_quiet (fail)
            go_wp2_with (at_builtin; refine wpList_append_own _ rfl (.tmp 50) (.tmp 52) 33 rfl w2.heap.size 38 i0 _ 2 16 Try.underlying33 hi hz0 hz1 hz2 rfl (by decide) _ _ _ rfl (by exact (HON.out.alloc _).alloc _) ⟨wr.heap.size + 1, 0, none⟩ 1 1 [.int .i64 ak, .int .i64 fk] rfl rfl (news_at _ _ (by simp) #[.int .i64 ak, .int .i64 fk] 38) (by simp [Value.oneCell']) (by unfold maxLen; omega) (by omega) (by simp; omega) ?_)
            intro v' w3 hown3 hgrow hnil
            have HO3 := Lib.hid hown3; clear hown3 hnil
            have HG := Lib.hid hgrow; clear hgrow
            go_wp2_with fail
            go_roundw
            case rel =>
              have hB3 : Below w2.heap.size w2 w3 := ((below_drewN (HB.out.alloc hwr _) _).alloc (by simp; omega) _).grown HG.out (by simp; omega) (fun g hg => ((World.ownsRow.lt HOWN.out) g hg).1)
              refine ⟨k + 1, by omega, by go_num, hB3, ?_⟩
              rw [HTS.out, HSS.out]
              unfold OwnSteps
              rw [flatS_append, List.length_append, HQ.out]
              exact HO3.out
            case measure => simp [intOf]; omega
    · have HB := Lib.hid hb; clear hb
      go_wp2_with fail
      rw [Exit.noGoto_ret]
      go_ret
      refine ⟨⟨_, rfl, ?_⟩, HBW.out.trans (HB.out.mono hw2)⟩
      have : k = l.length := by have := HN.out; omega
      rw [← tidyN_all, ← this]
      exact OwnSteps.mono HOWN.out hw2

end Go.Proofs.Ytjknmnmilladlaa
