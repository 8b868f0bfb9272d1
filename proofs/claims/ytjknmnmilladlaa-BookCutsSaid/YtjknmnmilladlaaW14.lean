/-
  Walks: the book's Get, Steps, New.
-/
import Derived.Test.YtjknmnmilladlaaW13
namespace Go.Proofs.Ytjknmnmilladlaa
open Go.RowKit

theorem frozen_new (w : World) (cs : Array Value) (t : TypeId) (o : Nat) : (w.alloc (.cells cs t)).frozen? ⟨w.heap.size, o, none⟩ = false := by
  unfold World.frozen?
  rw [heap_alloc_new]
  simp
theorem Apart.lt {w : World} {v : Value} {l : List Step} {bk : Nat} (h : IsSteps w v l) (hb : w.heap.size ≤ bk) (hn : 0 < l.length) : Apart bk v := by
  obtain ⟨b, off, cap, rfl, _, _, hlt, _⟩ := h.cells hn
  intro a n' cap' hv _
  cases hv
  simp
  omega

set_option maxHeartbeats 4000000 in
set_option maxRecDepth 100000 in
theorem getYes {w : World} {bk bm : Nat} {n : Int} {up fr : List Step} {L : List Slot} (h : BookIs w bk bm n up fr L) {s : Slot} (hs : s ∈ L) :
    Calls Try.prog 19 #[.pointer (some ⟨bk, 0, none⟩), .int .i64 s.id] w fun e w' => e = .returned (.tuple #[slotV s, .bool true]) ∧ Below w.heap.size w w' := by
  have HH := Lib.hid h
  have c3 := h.c3
  have hlt := h.lt
  have hne : w.heap.size ≠ bk := by omega
  obtain ⟨id, frm, to, k⟩ := s
  have HS := Lib.hid hs
  clear h hs
  unfold slotV
  simp only
  go_enter Try.func19, Try.ntmps19
  go_wp2_with (at_lookup; refine wp_look_yes _ rfl _ _ _ rfl bm L ⟨id, frm, to, k⟩ rfl rfl (HH.out.alloc _).map HS.out ?_; unfold slotV; simp only [if_true])
  refine bodyPost_ret (v := .tuple #[.agg #[.int .i64 id, .int .i64 frm, .int .i64 to, .int .i64 k], .bool true]) (by simp [results, Try.f19]; go_simp) rfl ?_
  exact ⟨rfl, ((Below.refl w.heap.size w).alloc (Nat.le_refl _) _).alloc (by simp) _⟩

set_option maxHeartbeats 4000000 in
set_option maxRecDepth 100000 in
theorem getNo {w : World} {bk bm : Nat} {n : Int} {up fr : List Step} {L : List Slot} (h : BookIs w bk bm n up fr L) {id : Int} (hs : ∀ s ∈ L, s.id ≠ id) :
    Calls Try.prog 19 #[.pointer (some ⟨bk, 0, none⟩), .int .i64 id] w fun e w' => e = .returned (.tuple #[slotV ⟨0, 0, 0, 0⟩, .bool false]) ∧ Below w.heap.size w w' := by
  have HH := Lib.hid h
  have c3 := h.c3
  have hlt := h.lt
  have hne : w.heap.size ≠ bk := by omega
  have HS := Lib.hid hs
  clear h hs
  unfold slotV
  simp only
  go_enter Try.func19, Try.ntmps19
  go_wp2_with (at_lookup; refine wp_look_no _ rfl _ _ _ rfl bm L id rfl rfl (HH.out.alloc _).map HS.out ?_; unfold slotV; simp only [if_true])
  refine bodyPost_ret (v := .tuple #[.agg #[.int .i64 0, .int .i64 0, .int .i64 0, .int .i64 0], .bool false]) (by simp [results, Try.f19]; go_simp) rfl ?_
  exact ⟨rfl, ((Below.refl w.heap.size w).alloc (Nat.le_refl _) _).alloc (by simp) _⟩

set_option maxHeartbeats 4000000 in
set_option maxRecDepth 100000 in
theorem stepsAny {w : World} {bk bm : Nat} {n : Int} {up fr : List Step} {L : List Slot} (h : BookIs w bk bm n up fr L) (hl : fr.length ≤ 40000) :
    Calls Try.prog 14 #[.pointer (some ⟨bk, 0, none⟩)] w fun e w' => (∃ v, e = .returned v ∧ OwnSteps w' w.heap.size v fr) ∧ Below w.heap.size w w' := by
  obtain ⟨vf, c2, f2, f3⟩ := h.c2
  have HC := Lib.hid (cloneAny f2 hl)
  clear f2 f3 h
  go_enter Try.func14, Try.ntmps14
  go_wp2_with fail
  refine (HC.out).mono ?_
  rintro e w1 ⟨⟨v, rfl, hv⟩, hb1⟩
  have HV := Lib.hid hv
  have HB := Lib.hid hb1
  clear hv hb1
  go_wp2_with fail
  go_ret
  exact ⟨⟨_, rfl, HV.out⟩, HB.out⟩

set_option maxHeartbeats 4000000 in
set_option maxRecDepth 100000 in
theorem newNo (n : Int) (w : World) (h : n < 1 ∨ 10000 < n) :
    Calls Try.prog 10 #[.int .i64 n] w fun e w' => e = .returned (.tuple #[.pointer none, .int .i64 2]) ∧ Below w.heap.size w w' := by
  by_cases h2 : n < 0 ∨ 10000 < n
  · have HN := Lib.hid (stepsNewNo n w h2)
    go_enter Try.func10, Try.ntmps10
    go_wp2_with fail
    refine (HN.out).mono ?_
    rintro e w1 ⟨rfl, rfl⟩
    go_wp2_with fail
    go_ret2
    exact ⟨rfl, Below.refl _ _⟩
  · have h3 : n = 0 := by omega
    subst h3
    have HN := Lib.hid (stepsNewYes 0 w (by omega) (by omega))
    go_enter Try.func10, Try.ntmps10
    go_wp2_with fail
    refine (HN.out).mono ?_
    rintro e w1 ⟨⟨v, rfl, hv⟩, hb1⟩
    have HB := Lib.hid hb1
    clear hv hb1
    go_wp2_with fail
    go_ret2
    exact ⟨rfl, HB.out⟩

set_option maxHeartbeats 4000000 in
set_option maxRecDepth 100000 in
theorem newYes (n : Int) (w : World) (h : 1 ≤ n) (h2 : n ≤ 10000) :
    Calls Try.prog 10 #[.int .i64 n] w fun e w' => (∃ bk bm, e = .returned (.tuple #[.pointer (some ⟨bk, 0, none⟩), .int .i64 0]) ∧ BookIs w' bk bm n [⟨0, n⟩] [⟨0, n⟩] [] ∧ w.heap.size ≤ bk ∧ w.heap.size ≤ bm) ∧ Below w.heap.size w w' := by
  have HN := Lib.hid (stepsNewYes n w (by omega) h2)
  have hd : decide (n < 1) = false := by simp; omega
  have hmm := @run_makeMap Try.prog
  go_enter Try.func10, Try.ntmps10
  go_wp2_with fail
  refine (HN.out).mono ?_
  rintro e w1 ⟨⟨v, rfl, hv⟩, hb1⟩
  obtain ⟨ao, cp, rfl, _, _⟩ := IsRow.shape hv.is
  have HC := Lib.hid (cloneAny hv.is (by simp))
  have HV := Lib.hid hv
  have HB := Lib.hid hb1
  clear hv hb1
  go_wp2_with fail
  refine (HC.out).mono ?_
  rintro e w2 ⟨⟨v2, rfl, hv2⟩, hb2⟩
  obtain ⟨ao2, cp2, rfl, _, _⟩ := IsRow.shape hv2.is
  have HV2 := Lib.hid hv2
  have HB2 := Lib.hid hb2
  clear hv2 hb2
  go_wp2_with fail
  go_ret2
  have hB12 : Below w.heap.size w w2 := HB.out.trans (HB2.out.mono HB.out.size)
  have hBn : Below w2.heap.size w2 (((w2.alloc (Obj.map #[] 0)).alloc (Obj.cells #[.int .i64 n, .slice ao 1 cp, .slice ao2 1 cp2, .map (some w2.heap.size)] 74))) := ((Below.refl _ _).alloc (Nat.le_refl _) _).alloc (by simp) _
  have hsz : (w2.alloc (Obj.map #[] 0)).heap.size = w2.heap.size + 1 := by simp
  refine ⟨⟨w2.heap.size + 1, w2.heap.size, rfl, ⟨?_, ⟨_, ?_, (HV.out.is.below HB2.out).below hBn, ?_⟩, ⟨_, ?_, HV2.out.is.below hBn, ?_⟩, ?_, ?_, ?_⟩, ?_, hB12.size⟩, hB12.trans (hBn.mono hB12.size)⟩
  · rw [← hsz]; exact cell_new _ _ 74 0 rfl
  · rw [← hsz]; exact cell_new _ _ 74 1 rfl
  · exact Apart.lt HV.out.is (Nat.le_trans HB2.out.size (Nat.le_succ _)) (by simp)
  · rw [← hsz]; exact cell_new _ _ 74 2 rfl
  · exact Apart.lt HV2.out.is (Nat.le_succ _) (by simp)
  · rw [← hsz]; exact cell_new _ _ 74 3 rfl
  · intro o; rw [← hsz]; exact frozen_new _ _ 74 o
  · exact (MapIs.made w2).alloc _
  · have := hB12.size; omega

end Go.Proofs.Ytjknmnmilladlaa
