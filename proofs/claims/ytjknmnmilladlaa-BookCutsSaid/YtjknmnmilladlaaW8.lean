/-
  Walks: steps.Add.
-/
import Derived.Test.YtjknmnmilladlaaW7
import Derived.Test.YtjknmnmilladlaaP3
namespace Go.Proofs.Ytjknmnmilladlaa
open Go.RowKit

def AddPost (l : List Step) (frm to k : Int) (w : World) (e : Ending) (w' : World) : Prop :=
  (∃ v, e = .returned (.tuple #[v, .int .i64 (addErr l frm to k)]) ∧ OwnSteps w' w.heap.size v (addRes l frm to k)) ∧ Below w.heap.size w w'

theorem AddPost.no {l : List Step} {frm to k : Int} {w w' : World} {n : Int} (h : addErr l frm to k = n) (hn : n ≠ 0) (hb : Below w.heap.size w w') : AddPost l frm to k w (.returned (.tuple #[.slice none 0 0, .int .i64 n])) w' := by
  refine ⟨⟨_, by rw [h], ?_⟩, hb⟩
  have : addRes l frm to k = [] := by unfold addRes; rw [if_neg (by rw [h]; exact hn)]
  rw [this]
  exact World.ownsRow_nil _ _ _ _

set_option maxHeartbeats 1000000 in
set_option maxRecDepth 100000 in
theorem addBad {w : World} {v : Value} {l : List Step} (h : IsSteps w v l) (hc : chk l = false) (frm to k : Int) :
    Calls Try.prog 44 #[v, .int .i64 frm, .int .i64 to, .int .i64 k] w (AddPost l frm to k w) := by
  have HC := checkAny h
  rw [hc] at HC
  have HC := Lib.hid HC
  have he : addErr l frm to k = 2 := by simp [addErr, hc]
  have HE := Lib.hid he
  clear h hc he
  go_enter Try.func44, Try.ntmps44
  go_wp2_with fail
  refine (HC.out).mono ?_
  rintro e w1 ⟨rfl, hb1⟩
  have HB := Lib.hid hb1; clear hb1
  have e2 : errOf false = 2 := rfl
  go_wp2_with fail
  go_ret2
  exact AddPost.no HE.out (by omega) HB.out

set_option maxHeartbeats 4000000 in
set_option maxRecDepth 100000 in
theorem addArg {w : World} {v : Value} {l : List Step} (h : IsSteps w v l) (hc : chk l = true) (frm to k : Int) (hp : pOk frm to k = false) :
    Calls Try.prog 44 #[v, .int .i64 frm, .int .i64 to, .int .i64 k] w (AddPost l frm to k w) := by
  have HC := checkAny h
  rw [hc] at HC
  have HC := Lib.hid HC
  have he : addErr l frm to k = 2 := by simp [addErr, hp]
  have HE := Lib.hid he
  clear h hc he
  have e0 : errOf true = 0 := rfl
  have hcases : isT frm = false ∨ (isT frm = true ∧ isT to = false) ∨ (isT frm = true ∧ isT to = true ∧ to < frm) ∨ (isT frm = true ∧ isT to = true ∧ frm ≤ to ∧ k < -10000) ∨ (isT frm = true ∧ isT to = true ∧ frm ≤ to ∧ -10000 ≤ k ∧ 10000 < k) := by
    unfold pOk at hp
    cases h1 : isT frm
    · exact .inl rfl
    cases h2 : isT to
    · exact .inr (.inl ⟨rfl, rfl⟩)
    simp [h1, h2] at hp
    rcases Int.lt_or_le to frm with h3 | h3
    · exact .inr (.inr (.inl ⟨rfl, rfl, h3⟩))
    rcases Int.lt_or_le k (-10000) with h4 | h4
    · exact .inr (.inr (.inr (.inl ⟨rfl, rfl, h3, h4⟩)))
    · exact .inr (.inr (.inr (.inr ⟨rfl, rfl, h3, h4, by omega⟩)))
  clear hp
  rcases hcases with h1 | ⟨h1, h2⟩ | ⟨h1, h2, h3⟩ | ⟨h1, h2, h3, h4⟩ | ⟨h1, h2, h3, h4, h5⟩
  · go_enter Try.func44, Try.ntmps44
    go_wp2_with fail
    refine (HC.out).mono ?_
    rintro e w1 ⟨rfl, hb1⟩
    have HB := Lib.hid hb1; clear hb1
    go_wp2_with fail
    refine (clockIsF frm _ h1).mono ?_
    rintro e w2 ⟨rfl, rfl⟩
    go_wp2_with fail
    go_ret2
    exact AddPost.no HE.out (by omega) HB.out
  · go_enter Try.func44, Try.ntmps44
    go_wp2_with fail
    refine (HC.out).mono ?_
    rintro e w1 ⟨rfl, hb1⟩
    have HB := Lib.hid hb1; clear hb1
    go_wp2_with fail
    refine (clockIsT frm _ h1).mono ?_
    rintro e w2 ⟨rfl, rfl⟩
    go_wp2_with fail
    refine (clockIsF to _ h2).mono ?_
    rintro e w2 ⟨rfl, rfl⟩
    go_wp2_with fail
    go_ret2
    exact AddPost.no HE.out (by omega) HB.out
  · go_enter Try.func44, Try.ntmps44
    go_wp2_with fail
    refine (HC.out).mono ?_
    rintro e w1 ⟨rfl, hb1⟩
    have HB := Lib.hid hb1; clear hb1
    go_wp2_with fail
    refine (clockIsT frm _ h1).mono ?_
    rintro e w2 ⟨rfl, rfl⟩
    go_wp2_with fail
    refine (clockIsT to _ h2).mono ?_
    rintro e w2 ⟨rfl, rfl⟩
    have hd : decide (to < frm) = true := by simpa using h3
    go_wp2_with fail
    go_ret2
    exact AddPost.no HE.out (by omega) HB.out
  · go_enter Try.func44, Try.ntmps44
    go_wp2_with fail
    refine (HC.out).mono ?_
    rintro e w1 ⟨rfl, hb1⟩
    have HB := Lib.hid hb1; clear hb1
    go_wp2_with fail
    refine (clockIsT frm _ h1).mono ?_
    rintro e w2 ⟨rfl, rfl⟩
    go_wp2_with fail
    refine (clockIsT to _ h2).mono ?_
    rintro e w2 ⟨rfl, rfl⟩
    have hd : decide (to < frm) = false := by simpa using h3
    have hd2 : decide (k < -10000) = true := by simpa using h4
    go_wp2_with fail
    go_ret2
    exact AddPost.no HE.out (by omega) HB.out
  · go_enter Try.func44, Try.ntmps44
    go_wp2_with fail
    refine (HC.out).mono ?_
    rintro e w1 ⟨rfl, hb1⟩
    have HB := Lib.hid hb1; clear hb1
    go_wp2_with fail
    refine (clockIsT frm _ h1).mono ?_
    rintro e w2 ⟨rfl, rfl⟩
    go_wp2_with fail
    refine (clockIsT to _ h2).mono ?_
    rintro e w2 ⟨rfl, rfl⟩
    have hd : decide (to < frm) = false := by simpa using h3
    have hd2 : decide (k < -10000) = false := by simpa using h4
    have hd3 : decide (10000 < k) = true := by simpa using h5
    go_wp2_with fail
    go_ret2
    exact AddPost.no HE.out (by omega) HB.out

set_option maxHeartbeats 1000000 in
set_option maxRecDepth 100000 in
theorem addSame {w : World} {v : Value} {l : List Step} (h : IsSteps w v l) (hc : chk l = true) (frm k : Int) (hp : pOk frm frm k = true) :
    Calls Try.prog 44 #[v, .int .i64 frm, .int .i64 frm, .int .i64 k] w (AddPost l frm frm k w) := by
  have hv := chk_iff.1 hc
  have HC := checkAny h
  rw [hc] at HC
  have HC := Lib.hid HC
  have he : addErr l frm frm k = 0 := by simp [addErr, hc, hp]
  have hr : addRes l frm frm k = l := by simp [addRes, he]
  have e0 : errOf true = 0 := rfl
  have h1 : isT frm = true := by simp [pOk] at hp; exact hp.1.1
  have h3 : -10000 ≤ k ∧ k ≤ 10000 := by simp [pOk] at hp; omega
  have hd2 : decide (k < -10000) = false := by simp; omega
  have hd3 : decide (10000 < k) = false := by simp; omega
  have hd0 : decide (frm < frm) = false := by simp
  have hd1 : (frm == frm) = true := by simp
  have HE := Lib.hid he
  have HR := Lib.hid hr
  have HV := Lib.hid hv
  have HH := Lib.hid h
  clear h hc he hr hv hp h3
  go_enter Try.func44, Try.ntmps44
  go_wp2_with fail
  refine (HC.out).mono ?_
  rintro e w1 ⟨rfl, hb1⟩
  have hcl := cloneAny (HH.out.below hb1) (Nat.le_trans HV.out.len (by omega))
  have HCL := Lib.hid hcl
  have HB := Lib.hid hb1; clear hb1 hcl
  go_wp2_with fail
  refine (clockIsT frm _ h1).mono ?_
  rintro e w2 ⟨rfl, rfl⟩
  go_wp2_with fail
  refine (clockIsT frm _ h1).mono ?_
  rintro e w2 ⟨rfl, rfl⟩
  go_wp2_with fail
  refine (HCL.out).mono ?_
  rintro e w3 ⟨⟨v', rfl, hown⟩, hb2⟩
  have HO := Lib.hid hown
  have HB2 := Lib.hid hb2; clear hb2 hown
  go_wp2_with fail
  go_ret2
  refine ⟨⟨v', by rw [HE.out]; rfl, ?_⟩, HB.out.trans (HB2.out.mono HB.out.size)⟩
  rw [HR.out]
  exact OwnSteps.mono HO.out HB.out.size

end Go.Proofs.Ytjknmnmilladlaa
