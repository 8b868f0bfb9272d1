/-
  Walks: the book's Cut. (Printed by gen15.py.)
-/
import Derived.Test.YtjknmnmilladlaaW14
import Derived.Test.YtjknmnmilladlaaW12
namespace Go.Proofs.Ytjknmnmilladlaa
open Go.RowKit

theorem Kept.frozen {bk bm : Nat} {w w' : World} (h : Kept bk bm w w') {b o : Nat} (hb : b < w.heap.size) (h1 : b ≠ bk) (h2 : b ≠ bm) : w'.frozen? ⟨b, o, none⟩ = w.frozen? ⟨b, o, none⟩ := World.frozen?_of_block (w := w) (h.block b hb h1 h2)

/-- A new block of cells, behind a step that keeps all but the book. -/
theorem kept_new {bk bm : Nat} {w w1 : World} (cs : Array Value) (t : TypeId) (h : Kept bk bm (w.alloc (.cells cs t)) w1) (h1 : bk < w.heap.size) (h2 : bm < w.heap.size) :
    (∀ o u, cs[o]? = some u → w1.cell? ⟨w.heap.size, o, none⟩ = some u) ∧ ∀ o, w1.frozen? ⟨w.heap.size, o, none⟩ = false :=
  ⟨fun o u hu => (h.cell (by simp) (by omega) (by omega)).trans (cell_new w cs t o hu), fun o => (h.frozen (by simp) (by omega) (by omega)).trans (frozen_new w cs t o)⟩

theorem Kept.setNew {bk bm : Nat} {a w : World} (h : Kept bk bm a w) {X : Nat} (hX : a.heap.size ≤ X) (o : Nat) (u : Value) : Kept bk bm a (w.setCell ⟨X, o, none⟩ u) :=
  ⟨h.os, h.tape, h.output, by simpa [World.setCell] using h.size, fun k hk h1 h2 => (Below.heap_setCell w ⟨X, o, none⟩ u k (by simp; omega)).trans (h.block k hk h1 h2)⟩
theorem AwayB.setOut {w : World} {bk X Y : Nat} (h : AwayB w bk Y) (hX : X ≠ bk) (o : Nat) (u : Value) : AwayB (w.setCell ⟨X, o, none⟩ u) bk Y := by
  intro v hv
  rw [cell_set_other (.inl (Ne.symm hX)), cell_set_other (.inl (Ne.symm hX))] at hv
  exact h v hv
/-- A box laid ahead, a step on the book, a store into the box. -/
theorem LayPost.boxed {w w1 : World} {bk bm : Nat} {n : Int} {up fr fr2 : List Step} {L L2 : List Slot} (h : BookIs w bk bm n up fr L) (ob : Obj) (hP : LayPost (w.alloc ob) bk bm n up fr2 L2 w1) (o : Nat) (u : Value) :
    LayPost w bk bm n up fr2 L2 (w1.setCell ⟨w.heap.size, o, none⟩ u) := by
  have hlt := h.lt
  have hne : w.heap.size ≠ bk := by omega
  have hal : Below w.heap.size w (w.alloc ob) := (Below.refl _ _).alloc (Nat.le_refl _) _
  refine ⟨hP.1.setOut hne (hP.2.2 _ (by simp) ((h.away (Nat.le_refl _)).below hal hlt)) o u, (((Kept.refl bk bm w).alloc ob).trans hP.2.1).setNew (Nat.le_refl _) o u, fun Y hY hA => (hP.2.2 Y (by simp; omega) (hA.below hal hlt)).setOut hne o u⟩
theorem LayPost.trans {w w1 w2 : World} {bk bm : Nat} {n : Int} {up fr fr2 : List Step} {L L2 : List Slot} (hP : LayPost w bk bm n up fr L w1) (hQ : LayPost w1 bk bm n up fr2 L2 w2) : LayPost w bk bm n up fr2 L2 w2 :=
  ⟨hQ.1, hP.2.1.trans hQ.2.1, fun X hX hA => hQ.2.2 X (Nat.lt_of_lt_of_le hX hP.2.1.size) (hP.2.2 X hX hA)⟩
theorem LayPost.ahead {w w1 w2 : World} {bk bm : Nat} {n : Int} {up fr : List Step} {L : List Slot} (hb : Below w.heap.size w w1) (hlt : bk < w.heap.size) (hQ : LayPost w1 bk bm n up fr L w2) : LayPost w bk bm n up fr L w2 :=
  ⟨hQ.1, (Kept.of_below hb).trans hQ.2.1, fun X hX hA => hQ.2.2 X (Nat.lt_of_lt_of_le hX hb.size) (hA.below hb hlt)⟩
theorem LayPost.behind {w w1 w2 : World} {bk bm : Nat} {n : Int} {up fr : List Step} {L : List Slot} (hP : LayPost w bk bm n up fr L w1) (hb : Below w1.heap.size w1 w2) : LayPost w bk bm n up fr L w2 :=
  ⟨hP.1.below hb, hP.2.1.trans (Kept.of_below hb), fun X hX hA => (hP.2.2 X hX hA).below hb hP.1.lt⟩
theorem without_ne (L : List Slot) (id : Int) : ∀ x ∈ without L id, x.id ≠ id := by
  intro x hx
  unfold without at hx
  rw [List.mem_filter] at hx
  simpa using hx.2

set_option maxHeartbeats 4000000 in
set_option maxRecDepth 100000 in
theorem cutBkNil (id to : Int) (w : World) : Calls Try.prog 20 #[.pointer none, .int .i64 id, .int .i64 to] w fun e w' => e = .returned (.int .i64 1) ∧ Below w.heap.size w w' := by
  go_enter Try.func20, Try.ntmps20
  go_wp2_with fail
  go_ret
  exact ⟨rfl, Below.refl _ _⟩

set_option maxHeartbeats 4000000 in
set_option maxRecDepth 100000 in
theorem cutBkA {w : World} {bk bm : Nat} {n : Int} {up fr : List Step} {L : List Slot} (h : BookIs w bk bm n up fr L) (id to : Int) (hs : ∀ s ∈ L, s.id ≠ id) :
    Calls Try.prog 20 #[.pointer (some ⟨bk, 0, none⟩), .int .i64 id, .int .i64 to] w fun e w' => e = .returned (.int .i64 4) ∧ Below w.heap.size w w' := by
  have HH := Lib.hid h
  have c3 := h.c3
  have hlt := h.lt
  have hne : w.heap.size ≠ bk := by omega
  have HS := Lib.hid hs
  clear h hs
  go_enter Try.func20, Try.ntmps20
  go_wp2_with (at_lookup; refine wp_look_no _ rfl _ _ _ rfl bm L id rfl rfl HH.out.map HS.out ?_; unfold slotV; simp only [if_true])
  go_ret
  exact ⟨rfl, (Below.refl w.heap.size w).alloc (Nat.le_refl _) _⟩

set_option maxHeartbeats 4000000 in
set_option maxRecDepth 100000 in
theorem cutBkB {w : World} {bk bm : Nat} {n : Int} {up fr : List Step} {L : List Slot} (h : BookIs w bk bm n up fr L) {s : Slot} (hs : s ∈ L) (to : Int) (ht : isT to = false) :
    Calls Try.prog 20 #[.pointer (some ⟨bk, 0, none⟩), .int .i64 s.id, .int .i64 to] w fun e w' => e = .returned (.int .i64 2) ∧ Below w.heap.size w w' := by
  have c3 := h.c3
  have hlt := h.lt
  have hltm := h.map.lt
  have hne : w.heap.size ≠ bk := by omega
  have KT := Lib.hid ht
  clear ht
  have HS := Lib.hid hs
  have HH := Lib.hid h
  clear h hs
  obtain ⟨id, f0, t0, k⟩ := s
  simp only
  go_enter Try.func20, Try.ntmps20
  go_wp2_with (at_lookup; refine wp_look_yes _ rfl _ _ _ rfl bm L ⟨id, f0, t0, k⟩ rfl rfl HH.out.map HS.out ?_; unfold slotV; simp only [if_true])
  refine (clockF to _ KT.out).mono ?_
  rintro e w1 ⟨rfl, rfl⟩
  go_wp2_with fail
  go_ret
  exact ⟨rfl, (Below.refl w.heap.size w).alloc (Nat.le_refl _) _⟩

set_option maxHeartbeats 4000000 in
set_option maxRecDepth 100000 in
theorem cutBkC {w : World} {bk bm : Nat} {n : Int} {up fr : List Step} {L : List Slot} (h : BookIs w bk bm n up fr L) {s : Slot} (hs : s ∈ L) (to : Int) (ht : isT to = true) (h2 : s.to < to) :
    Calls Try.prog 20 #[.pointer (some ⟨bk, 0, none⟩), .int .i64 s.id, .int .i64 to] w fun e w' => e = .returned (.int .i64 2) ∧ Below w.heap.size w w' := by
  have c3 := h.c3
  have hlt := h.lt
  have hltm := h.map.lt
  have hne : w.heap.size ≠ bk := by omega
  have KT := Lib.hid ht
  clear ht
  have HS := Lib.hid hs
  have HH := Lib.hid h
  clear h hs
  obtain ⟨id, f0, t0, k⟩ := s
  simp only at h2 ⊢
  have hd : decide (t0 < to) = true := by simpa using h2
  go_enter Try.func20, Try.ntmps20
  go_wp2_with (at_lookup; refine wp_look_yes _ rfl _ _ _ rfl bm L ⟨id, f0, t0, k⟩ rfl rfl HH.out.map HS.out ?_; unfold slotV; simp only [if_true])
  refine (clockT to _ KT.out).mono ?_
  rintro e w1 ⟨rfl, rfl⟩
  go_wp2_with fail
  go_ret
  exact ⟨rfl, (Below.refl w.heap.size w).alloc (Nat.le_refl _) _⟩

set_option maxHeartbeats 4000000 in
set_option maxRecDepth 100000 in
theorem cutBkD {w : World} {bk bm : Nat} {n : Int} {up fr : List Step} {L : List Slot} (h : BookIs w bk bm n up fr L) {s : Slot} (hs : s ∈ L) (to : Int) (ht : isT to = true) (h2 : to ≤ s.to) (h3 : to ≤ s.frm) :
    Calls Try.prog 20 #[.pointer (some ⟨bk, 0, none⟩), .int .i64 s.id, .int .i64 to] w fun e w' => e = .returned (.int .i64 0) ∧ LayPost w bk bm n up (addRes fr s.frm s.to s.nodes) (without L s.id) w' := by
  have c3 := h.c3
  have hlt := h.lt
  have hltm := h.map.lt
  have hne : w.heap.size ≠ bk := by omega
  have KT := Lib.hid ht
  clear ht
  have KD := Lib.hid (fun (w1 : World) (h1 : BookIs w1 bk bm n up fr L) => dropAny h1 hs)
  have HS := Lib.hid hs
  have HH := Lib.hid h
  clear h hs
  obtain ⟨id, f0, t0, k⟩ := s
  simp only at h2 h3 KD ⊢
  have hd : decide (t0 < to) = false := by simpa using h2
  have hd2 : decide (f0 < to) = false := by simpa using h3
  clear h2 h3
  go_enter Try.func20, Try.ntmps20
  go_wp2_with (at_lookup; refine wp_look_yes _ rfl _ _ _ rfl bm L ⟨id, f0, t0, k⟩ rfl rfl HH.out.map HS.out ?_; unfold slotV; simp only [if_true])
  refine (clockT to _ KT.out).mono ?_
  rintro e w1 ⟨rfl, rfl⟩
  go_wp2_with fail
  refine (KD.out _ (HH.out.alloc _)).mono ?_
  rintro e w1 ⟨rfl, hP⟩
  have hN := kept_new _ 29 hP.2.1 hlt hltm
  have k0 := hN.1 0 _ rfl
  have k1 := hN.1 1 _ rfl
  have k2 := hN.1 2 _ rfl
  have k3 := hN.1 3 _ rfl
  have g2 := hN.2 2
  clear hN
  have hP2 := LayPost.boxed HH.out _ hP 2 (.int .i64 to)
  have HP := Lib.hid hP
  have HP2 := Lib.hid hP2
  clear hP hP2
  go_wp2_with fail
  go_ret
  exact ⟨rfl, HP2.out⟩

set_option maxHeartbeats 4000000 in
set_option maxRecDepth 100000 in
theorem cutBkE {w : World} {bk bm : Nat} {n : Int} {up fr : List Step} {L : List Slot} (h : BookIs w bk bm n up fr L) {s : Slot} (hs : s ∈ L) (to : Int) (ht : isT to = true) (h2 : to ≤ s.to) (h3 : s.frm < to) (hk : -10000 ≤ s.nodes ∧ s.nodes ≤ 10000) (he : addErr (addRes fr s.frm s.to s.nodes) s.frm to (-s.nodes) = 0) :
    Calls Try.prog 20 #[.pointer (some ⟨bk, 0, none⟩), .int .i64 s.id, .int .i64 to] w fun e w' => e = .returned (.int .i64 0) ∧ LayPost w bk bm n up (addRes (addRes fr s.frm s.to s.nodes) s.frm to (-s.nodes)) (without L s.id ++ [⟨s.id, s.frm, to, s.nodes⟩]) w' := by
  have c3 := h.c3
  have hlt := h.lt
  have hltm := h.map.lt
  have hne : w.heap.size ≠ bk := by omega
  have KT := Lib.hid ht
  clear ht
  have KD := Lib.hid (fun (w1 : World) (h1 : BookIs w1 bk bm n up fr L) => dropAny h1 hs)
  have KL := Lib.hid (fun (w1 : World) (h1 : BookIs w1 bk bm n up (addRes fr s.frm s.to s.nodes) (without L s.id)) => layYes h1 ⟨s.id, s.frm, to, s.nodes⟩ hk he (without_ne L s.id))
  have HS := Lib.hid hs
  have HH := Lib.hid h
  clear h hs
  obtain ⟨id, f0, t0, k⟩ := s
  simp only at h2 h3 KD KL ⊢
  unfold slotV at KL
  simp only at KL
  have hd : decide (t0 < to) = false := by simpa using h2
  have hd2 : decide (f0 < to) = true := by simpa using h3
  clear h2 h3 hk he
  go_enter Try.func20, Try.ntmps20
  go_wp2_with (at_lookup; refine wp_look_yes _ rfl _ _ _ rfl bm L ⟨id, f0, t0, k⟩ rfl rfl HH.out.map HS.out ?_; unfold slotV; simp only [if_true])
  refine (clockT to _ KT.out).mono ?_
  rintro e w1 ⟨rfl, rfl⟩
  go_wp2_with fail
  refine (KD.out _ (HH.out.alloc _)).mono ?_
  rintro e w1 ⟨rfl, hP⟩
  have hN := kept_new _ 29 hP.2.1 hlt hltm
  have k0 := hN.1 0 _ rfl
  have k1 := hN.1 1 _ rfl
  have k2 := hN.1 2 _ rfl
  have k3 := hN.1 3 _ rfl
  have g2 := hN.2 2
  clear hN
  have hP2 := LayPost.boxed HH.out _ hP 2 (.int .i64 to)
  have HP := Lib.hid hP
  have HP2 := Lib.hid hP2
  clear hP hP2
  go_wp2_with fail
  refine (KL.out _ HP2.out.1).mono ?_
  rintro e w2 ⟨rfl, hQ⟩
  have HQ := Lib.hid hQ
  clear hQ
  go_wp2_with fail
  go_ret
  exact ⟨rfl, HP2.out.trans HQ.out⟩

end Go.Proofs.Ytjknmnmilladlaa
