/-
  Walks: the book's Move. (Printed by gen16.py.)
-/
import Derived.Test.YtjknmnmilladlaaW15
namespace Go.Proofs.Ytjknmnmilladlaa
open Go.RowKit

theorem kept_cell {bk bm : Nat} {w w' : World} (h : Kept bk bm w w') {b o : Nat} {u : Value} (hc : w.cell? ⟨b, o, none⟩ = some u) (h1 : b ≠ bk) (h2 : b ≠ bm) : w'.cell? ⟨b, o, none⟩ = some u :=
  (h.cell (World.block_lt_of_cell? w _ hc) h1 h2).trans hc
theorem add_wrap {a b : Int} (h1 : isT a = true) (h2 : isT b = true) : IntKind.i64.wrap (a + b) = a + b := by
  rw [isT_iff] at h1 h2
  unfold IntKind.wrap
  simp [IntKind.signed, IntKind.bits]
  omega
theorem sub_wrap {a b c : Int} (h1 : isT a = true) (h2 : isT b = true) (h3 : isT c = true) : IntKind.i64.wrap (a + b - c) = a + b - c := by
  rw [isT_iff] at h1 h2 h3
  unfold IntKind.wrap
  simp [IntKind.signed, IntKind.bits]
  omega

set_option maxHeartbeats 4000000 in
set_option maxRecDepth 100000 in
theorem moveNil (id frm : Int) (w : World) : Calls Try.prog 29 #[.pointer none, .int .i64 id, .int .i64 frm] w fun e w' => e = .returned (.int .i64 1) ∧ Below w.heap.size w w' := by
  go_enter Try.func29, Try.ntmps29
  go_wp2_with fail
  go_ret
  exact ⟨rfl, Below.refl _ _⟩

set_option maxHeartbeats 4000000 in
set_option maxRecDepth 100000 in
theorem moveA {w : World} {bk bm : Nat} {n : Int} {up fr : List Step} {L : List Slot} (h : BookIs w bk bm n up fr L) (id frm : Int) (hs : ∀ s ∈ L, s.id ≠ id) :
    Calls Try.prog 29 #[.pointer (some ⟨bk, 0, none⟩), .int .i64 id, .int .i64 frm] w fun e w' => e = .returned (.int .i64 4) ∧ Below w.heap.size w w' := by
  have HH := Lib.hid h
  have c3 := h.c3
  have hlt := h.lt
  have hne : w.heap.size ≠ bk := by omega
  have HS := Lib.hid hs
  clear h hs
  go_enter Try.func29, Try.ntmps29
  go_wp2_with (at_lookup; refine wp_look_no _ rfl _ _ _ rfl bm L id rfl rfl HH.out.map HS.out ?_; unfold slotV; simp only [if_true])
  go_ret
  exact ⟨rfl, (Below.refl w.heap.size w).alloc (Nat.le_refl _) _⟩

/-- What Move would make of a slot. -/
def moved (s : Slot) (frm : Int) : Slot := ⟨s.id, frm, frm + s.to - s.frm, s.nodes⟩

set_option maxHeartbeats 4000000 in
set_option maxRecDepth 100000 in
theorem moveB {w : World} {bk bm : Nat} {n : Int} {up fr : List Step} {L : List Slot} (h : BookIs w bk bm n up fr L) {s : Slot} (hs : s ∈ L) (frm : Int) (ht : isT frm = false) :
    Calls Try.prog 29 #[.pointer (some ⟨bk, 0, none⟩), .int .i64 s.id, .int .i64 frm] w fun e w' => e = .returned (.int .i64 2) ∧ Below w.heap.size w w' := by
  have c3 := h.c3
  have hlt := h.lt
  have hltm := h.map.lt
  have hne : w.heap.size ≠ bk := by omega
  have KT := Lib.hid ht
  clear ht
  have HS := Lib.hid hs
  have HH := Lib.hid h
  clear h hs
  obtain ⟨id, f0, t0, k⟩ := s
  simp only
  go_enter Try.func29, Try.ntmps29
  go_wp2_with (at_lookup; refine wp_look_yes _ rfl _ _ _ rfl bm L ⟨id, f0, t0, k⟩ rfl rfl HH.out.map HS.out ?_; unfold slotV; simp only [if_true])
  refine (clockF frm _ KT.out).mono ?_
  rintro e w1 ⟨rfl, rfl⟩
  go_wp2_with fail
  go_ret
  exact ⟨rfl, ((Below.refl w.heap.size w).alloc (Nat.le_refl _) _).alloc (by simp) _⟩

set_option maxHeartbeats 4000000 in
set_option maxRecDepth 100000 in
theorem moveC {w : World} {bk bm : Nat} {n : Int} {up fr : List Step} {L : List Slot} (h : BookIs w bk bm n up fr L) {s : Slot} (hs : s ∈ L) (frm : Int) (ht : isT frm = true) (hf : isT s.frm = true) (hu : isT s.to = true) (hr : rightOf n (moved s frm) = false) :
    Calls Try.prog 29 #[.pointer (some ⟨bk, 0, none⟩), .int .i64 s.id, .int .i64 frm] w fun e w' => e = .returned (.int .i64 2) ∧ Below w.heap.size w w' := by
  have c3 := h.c3
  have hlt := h.lt
  have hltm := h.map.lt
  have hne : w.heap.size ≠ bk := by omega
  have KR := Lib.hid (fun (w1 : World) (h1 : BookIs w1 bk bm n up fr L) => (hr ▸ rightAny h1 (moved s frm) : Calls Try.prog 33 #[.pointer (some ⟨bk, 0, none⟩), slotV (moved s frm)] w1 fun e w' => e = .returned (.bool false) ∧ Below w1.heap.size w1 w'))
  have hw1 := add_wrap ht hu
  have hw2 := sub_wrap ht hu hf
  clear hf hu hr
  have KT := Lib.hid ht
  clear ht
  have HS := Lib.hid hs
  have HH := Lib.hid h
  clear h hs
  obtain ⟨id, f0, t0, k⟩ := s
  unfold moved slotV at KR
  simp only at KR hw1 hw2 ⊢
  go_enter Try.func29, Try.ntmps29
  go_wp2_with (at_lookup; refine wp_look_yes _ rfl _ _ _ rfl bm L ⟨id, f0, t0, k⟩ rfl rfl HH.out.map HS.out ?_; unfold slotV; simp only [if_true])
  refine (clockT frm _ KT.out).mono ?_
  rintro e w1 ⟨rfl, rfl⟩
  go_wp2_with fail
  refine (KR.out _ (((HH.out.alloc _).alloc _))).mono ?_
  rintro e w1 ⟨rfl, hb1⟩
  have B1 := Lib.hid ((((Below.refl w.heap.size w).alloc (Nat.le_refl _) _).alloc (by simp) _).trans (hb1.mono (by simp; omega)))
  clear hb1
  go_wp2_with fail
  go_ret
  exact ⟨rfl, B1.out⟩

set_option maxHeartbeats 4000000 in
set_option maxRecDepth 100000 in
theorem moveE {w : World} {bk bm : Nat} {n : Int} {up fr : List Step} {L : List Slot} (h : BookIs w bk bm n up fr L) {s : Slot} (hs : s ∈ L) (frm : Int) (ht : isT frm = true) (hf : isT s.frm = true) (hu : isT s.to = true) (hr : rightOf n (moved s frm) = true) (hk : -10000 ≤ s.nodes ∧ s.nodes ≤ 10000) (he : addErr (addRes fr s.frm s.to s.nodes) (moved s frm).frm (moved s frm).to (-(moved s frm).nodes) = 0) :
    Calls Try.prog 29 #[.pointer (some ⟨bk, 0, none⟩), .int .i64 s.id, .int .i64 frm] w fun e w' => e = .returned (.int .i64 0) ∧ LayPost w bk bm n up (addRes (addRes fr s.frm s.to s.nodes) (moved s frm).frm (moved s frm).to (-(moved s frm).nodes)) (without L s.id ++ [moved s frm]) w' := by
  have c3 := h.c3
  have hlt := h.lt
  have hltm := h.map.lt
  have hne : w.heap.size ≠ bk := by omega
  have KL := Lib.hid (fun (w1 : World) (h1 : BookIs w1 bk bm n up (addRes fr s.frm s.to s.nodes) (without L s.id)) => layYes h1 (moved s frm) hk he (without_ne L s.id))
  generalize addRes (addRes fr s.frm s.to s.nodes) (moved s frm).frm (moved s frm).to (-(moved s frm).nodes) = rr at *
  generalize hL2 : without L s.id ++ [moved s frm] = L2 at *
  have HL2 := Lib.hid hL2
  clear hL2
  have KR := Lib.hid (fun (w1 : World) (h1 : BookIs w1 bk bm n up fr L) => (hr ▸ rightAny h1 (moved s frm) : Calls Try.prog 33 #[.pointer (some ⟨bk, 0, none⟩), slotV (moved s frm)] w1 fun e w' => e = .returned (.bool true) ∧ Below w1.heap.size w1 w'))
  have hw1 := add_wrap ht hu
  have hw2 := sub_wrap ht hu hf
  clear hf hu hr
  have KT := Lib.hid ht
  clear ht
  have KD := Lib.hid (fun (w1 : World) (h1 : BookIs w1 bk bm n up fr L) => dropAny h1 hs)
  clear hk he
  have HS := Lib.hid hs
  have HH := Lib.hid h
  clear h hs
  obtain ⟨id, f0, t0, k⟩ := s
  unfold moved slotV at KL
  unfold moved slotV at KR
  simp only at KR hw1 hw2 KD KL ⊢
  go_enter Try.func29, Try.ntmps29
  go_wp2_with (at_lookup; refine wp_look_yes _ rfl _ _ _ rfl bm L ⟨id, f0, t0, k⟩ rfl rfl HH.out.map HS.out ?_; unfold slotV; simp only [if_true])
  refine (clockT frm _ KT.out).mono ?_
  rintro e w1 ⟨rfl, rfl⟩
  go_wp2_with fail
  refine (KR.out _ (((HH.out.alloc _).alloc _))).mono ?_
  rintro e w1 ⟨rfl, hb1⟩
  have B1 := Lib.hid ((((Below.refl w.heap.size w).alloc (Nat.le_refl _) _).alloc (by simp) _).trans (hb1.mono (by simp; omega)))
  have a0 := cell_thru hb1 (cell_old _ (cell_new w _ 29 0 rfl))
  have a1 := cell_thru hb1 (cell_old _ (cell_new w _ 29 1 rfl))
  have a2 := cell_thru hb1 (cell_old _ (cell_new w _ 29 2 rfl))
  have a3 := cell_thru hb1 (cell_old _ (cell_new w _ 29 3 rfl))
  have hsz : (w.alloc (.cells #[.int .i64 id, .int .i64 f0, .int .i64 t0, .int .i64 k] 29)).heap.size = w.heap.size + 1 := by simp
  have b0 := cell_thru hb1 (cell_new (w.alloc (.cells #[.int .i64 id, .int .i64 f0, .int .i64 t0, .int .i64 k] 29)) _ 29 0 rfl)
  rw [hsz] at b0
  have b1 := cell_thru hb1 (cell_new (w.alloc (.cells #[.int .i64 id, .int .i64 f0, .int .i64 t0, .int .i64 k] 29)) _ 29 1 rfl)
  rw [hsz] at b1
  have b2 := cell_thru hb1 (cell_new (w.alloc (.cells #[.int .i64 id, .int .i64 f0, .int .i64 t0, .int .i64 k] 29)) _ 29 2 rfl)
  rw [hsz] at b2
  have b3 := cell_thru hb1 (cell_new (w.alloc (.cells #[.int .i64 id, .int .i64 f0, .int .i64 t0, .int .i64 k] 29)) _ 29 3 rfl)
  rw [hsz] at b3
  clear hb1
  go_wp2_with fail
  refine (KD.out _ (HH.out.below B1.out)).mono ?_
  rintro e w2 ⟨rfl, hP⟩
  have n1 : w.heap.size + 1 ≠ bk := by omega
  have n2 : w.heap.size ≠ bm := by omega
  have n3 : w.heap.size + 1 ≠ bm := by omega
  have p0 := kept_cell hP.2.1 a0 hne n2
  have p1 := kept_cell hP.2.1 a1 hne n2
  have p2 := kept_cell hP.2.1 a2 hne n2
  have p3 := kept_cell hP.2.1 a3 hne n2
  have q0 := kept_cell hP.2.1 b0 n1 n3
  have q1 := kept_cell hP.2.1 b1 n1 n3
  have q2 := kept_cell hP.2.1 b2 n1 n3
  have q3 := kept_cell hP.2.1 b3 n1 n3
  have HP := Lib.hid (LayPost.ahead B1.out hlt hP)
  clear hP n1 n2 n3
  go_wp2_with fail
  refine (KL.out _ HP.out.1).mono ?_
  rintro e w3 ⟨rfl, hQ⟩
  have HQ := Lib.hid hQ
  clear hQ
  go_wp2_with fail
  go_ret
  exact ⟨rfl, HP.out.trans HQ.out⟩

set_option maxHeartbeats 4000000 in
set_option maxRecDepth 100000 in
theorem moveD {w : World} {bk bm : Nat} {n : Int} {up fr : List Step} {L : List Slot} (h : BookIs w bk bm n up fr L) {s : Slot} (hs : s ∈ L) (frm : Int) (ht : isT frm = true) (hf : isT s.frm = true) (hu : isT s.to = true) (hr : rightOf n (moved s frm) = true) (hk : -10000 ≤ s.nodes ∧ s.nodes ≤ 10000) (he : addErr (addRes fr s.frm s.to s.nodes) (moved s frm).frm (moved s frm).to (-(moved s frm).nodes) ≠ 0) (he2 : addErr (addRes fr s.frm s.to s.nodes) s.frm s.to (-s.nodes) = 0) :
    Calls Try.prog 29 #[.pointer (some ⟨bk, 0, none⟩), .int .i64 s.id, .int .i64 frm] w fun e w' => e = .returned (.int .i64 (addErr (addRes fr s.frm s.to s.nodes) (moved s frm).frm (moved s frm).to (-(moved s frm).nodes))) ∧ LayPost w bk bm n up (addRes (addRes fr s.frm s.to s.nodes) s.frm s.to (-s.nodes)) (without L s.id ++ [s]) w' := by
  have c3 := h.c3
  have hlt := h.lt
  have hltm := h.map.lt
  have hne : w.heap.size ≠ bk := by omega
  have KN := Lib.hid (fun (w1 : World) (h1 : BookIs w1 bk bm n up (addRes fr s.frm s.to s.nodes) (without L s.id)) => layNo h1 (moved s frm) hk he)
  have KL := Lib.hid (fun (w1 : World) (h1 : BookIs w1 bk bm n up (addRes fr s.frm s.to s.nodes) (without L s.id)) => layYes h1 s hk he2 (without_ne L s.id))
  generalize addErr (addRes fr s.frm s.to s.nodes) (moved s frm).frm (moved s frm).to (-(moved s frm).nodes) = ee at *
  generalize addRes (addRes fr s.frm s.to s.nodes) s.frm s.to (-s.nodes) = rr at *
  generalize hL2 : without L s.id ++ [s] = L2 at *
  have HL2 := Lib.hid hL2
  clear hL2
  have KR := Lib.hid (fun (w1 : World) (h1 : BookIs w1 bk bm n up fr L) => (hr ▸ rightAny h1 (moved s frm) : Calls Try.prog 33 #[.pointer (some ⟨bk, 0, none⟩), slotV (moved s frm)] w1 fun e w' => e = .returned (.bool true) ∧ Below w1.heap.size w1 w'))
  have hw1 := add_wrap ht hu
  have hw2 := sub_wrap ht hu hf
  clear hf hu hr
  have KT := Lib.hid ht
  clear ht
  have KD := Lib.hid (fun (w1 : World) (h1 : BookIs w1 bk bm n up fr L) => dropAny h1 hs)
  have hd : (ee == 0) = false := by simpa using he
  clear hk he he2
  have HS := Lib.hid hs
  have HH := Lib.hid h
  clear h hs
  obtain ⟨id, f0, t0, k⟩ := s
  unfold moved slotV at KN
  unfold slotV at KL
  unfold moved slotV at KR
  simp only at KR hw1 hw2 KD KL KN ⊢
  go_enter Try.func29, Try.ntmps29
  go_wp2_with (at_lookup; refine wp_look_yes _ rfl _ _ _ rfl bm L ⟨id, f0, t0, k⟩ rfl rfl HH.out.map HS.out ?_; unfold slotV; simp only [if_true])
  refine (clockT frm _ KT.out).mono ?_
  rintro e w1 ⟨rfl, rfl⟩
  go_wp2_with fail
  refine (KR.out _ (((HH.out.alloc _).alloc _))).mono ?_
  rintro e w1 ⟨rfl, hb1⟩
  have B1 := Lib.hid ((((Below.refl w.heap.size w).alloc (Nat.le_refl _) _).alloc (by simp) _).trans (hb1.mono (by simp; omega)))
  have a0 := cell_thru hb1 (cell_old _ (cell_new w _ 29 0 rfl))
  have a1 := cell_thru hb1 (cell_old _ (cell_new w _ 29 1 rfl))
  have a2 := cell_thru hb1 (cell_old _ (cell_new w _ 29 2 rfl))
  have a3 := cell_thru hb1 (cell_old _ (cell_new w _ 29 3 rfl))
  have hsz : (w.alloc (.cells #[.int .i64 id, .int .i64 f0, .int .i64 t0, .int .i64 k] 29)).heap.size = w.heap.size + 1 := by simp
  have b0 := cell_thru hb1 (cell_new (w.alloc (.cells #[.int .i64 id, .int .i64 f0, .int .i64 t0, .int .i64 k] 29)) _ 29 0 rfl)
  rw [hsz] at b0
  have b1 := cell_thru hb1 (cell_new (w.alloc (.cells #[.int .i64 id, .int .i64 f0, .int .i64 t0, .int .i64 k] 29)) _ 29 1 rfl)
  rw [hsz] at b1
  have b2 := cell_thru hb1 (cell_new (w.alloc (.cells #[.int .i64 id, .int .i64 f0, .int .i64 t0, .int .i64 k] 29)) _ 29 2 rfl)
  rw [hsz] at b2
  have b3 := cell_thru hb1 (cell_new (w.alloc (.cells #[.int .i64 id, .int .i64 f0, .int .i64 t0, .int .i64 k] 29)) _ 29 3 rfl)
  rw [hsz] at b3
  clear hb1
  go_wp2_with fail
  refine (KD.out _ (HH.out.below B1.out)).mono ?_
  rintro e w2 ⟨rfl, hP⟩
  have n1 : w.heap.size + 1 ≠ bk := by omega
  have n2 : w.heap.size ≠ bm := by omega
  have n3 : w.heap.size + 1 ≠ bm := by omega
  have p0 := kept_cell hP.2.1 a0 hne n2
  have p1 := kept_cell hP.2.1 a1 hne n2
  have p2 := kept_cell hP.2.1 a2 hne n2
  have p3 := kept_cell hP.2.1 a3 hne n2
  have q0 := kept_cell hP.2.1 b0 n1 n3
  have q1 := kept_cell hP.2.1 b1 n1 n3
  have q2 := kept_cell hP.2.1 b2 n1 n3
  have q3 := kept_cell hP.2.1 b3 n1 n3
  have HP := Lib.hid (LayPost.ahead B1.out hlt hP)
  clear hP n1 n2 n3
  go_wp2_with fail
  refine (KN.out _ HP.out.1).mono ?_
  rintro e w3 ⟨rfl, hb3⟩
  have r0 := cell_thru hb3 p0
  have r1 := cell_thru hb3 p1
  have r2 := cell_thru hb3 p2
  have r3 := cell_thru hb3 p3
  have HQ := Lib.hid (LayPost.behind HP.out hb3)
  clear hb3
  go_wp2_with fail
  refine (KL.out _ HQ.out.1).mono ?_
  rintro e w4 ⟨rfl, hR⟩
  have HR := Lib.hid hR
  clear hR
  go_wp2_with fail
  go_ret
  exact ⟨rfl, HQ.out.trans HR.out⟩

end Go.Proofs.Ytjknmnmilladlaa
