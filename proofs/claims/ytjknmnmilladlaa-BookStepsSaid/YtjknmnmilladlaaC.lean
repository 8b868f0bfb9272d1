import Derived.Test.YtjknmnmilladlaaB
import Derived.Shelf.Slices.CompactI
import Derived.Shelf.Slices.Cells
import Derived.Shelf.Sort.Plain
import Derived.Shelf.Slices.In.SortNone
import Derived.Ground.Names2Prog
import Derived.Test.YtjknmnmilladlaaProg
import Derived.Sort.OwnSortedInts

/-
  Walks: the book's Take. (Printed by gen13.py.)
-/
namespace Go.Proofs.Ytjknmnmilladlaa
open Go.RowKit

theorem takeNil (w : World) (s : Slot) : Calls Try.prog 11 #[.pointer none, slotV s] w fun e w' => e = .returned (.int .i64 1) ∧ Below w.heap.size w w' := by
  obtain ⟨id, frm, to, k⟩ := s
  unfold slotV
  simp only
  go_enter Try.func11, Try.ntmps11
  go_wp2_with fail
  go_ret
  exact ⟨rfl, (Below.refl _ _).alloc (Nat.le_refl _) _⟩

/-- What a look-up hands out. -/
theorem look_any (bm : Nat) (L : List Slot) (id : Int) :
    ∃ a0 a1 a2 a3 ab, (∀ w1, MapIs w1 bm L → (Instr.lookup 72 (.map (some bm)) (.int .i64 id) true).run Try.prog w1 = .ok (.tuple #[.agg #[.int .i64 a0, .int .i64 a1, .int .i64 a2, .int .i64 a3], .bool ab]) w1) ∧
      ab = L.any (fun x => decide (x.id = id)) ∧ (ab = true → ⟨a0, a1, a2, a3⟩ ∈ L ∧ a0 = id) ∧ (ab = false → a0 = 0 ∧ a1 = 0 ∧ a2 = 0 ∧ a3 = 0) := by
  by_cases hx : ∃ x ∈ L, x.id = id
  · obtain ⟨x, hx, he⟩ := hx
    refine ⟨x.id, x.frm, x.to, x.nodes, true, fun w1 h1 => ?_, ?_, fun _ => ⟨hx, he⟩, fun e => by cases e⟩
    · have := h1.look_yes hx true
      rw [he] at this ⊢
      rw [this]
      unfold slotV
      rw [he]
      rfl
    · symm
      rw [List.any_eq_true]
      exact ⟨x, hx, by simpa using he⟩
  · refine ⟨0, 0, 0, 0, false, fun w1 h1 => ?_, ?_, fun e => (by cases e), fun _ => ⟨rfl, rfl, rfl, rfl⟩⟩
    · exact h1.look_no (id := id) (fun s hs he => hx ⟨s, hs, he⟩) true
    · symm
      rw [Bool.eq_false_iff]
      intro he
      rw [List.any_eq_true] at he
      obtain ⟨x, hx1, hx2⟩ := he
      exact hx ⟨x, hx1, by simpa using hx2⟩

set_option maxHeartbeats 4000000 in
set_option maxRecDepth 100000 in
theorem takeA {w : World} {bk bm : Nat} {n : Int} {up fr : List Step} {L : List Slot} (h : BookIs w bk bm n up fr L) (s : Slot) (hr : rightOf n s = false) :
    Calls Try.prog 11 #[.pointer (some ⟨bk, 0, none⟩), slotV s] w fun e w' => e = .returned (.int .i64 2) ∧ Below w.heap.size w w' := by
  have HR := fun (w1 : World) (h1 : BookIs w1 bk bm n up fr L) => rightAny h1 s
  rw [hr] at HR
  obtain ⟨id, frm, to, k⟩ := s
  unfold slotV at HR ⊢
  simp only at HR ⊢
  have c3 := h.c3
  have hlt := h.lt
  have hne : w.heap.size ≠ bk := by omega
  obtain ⟨a0, a1, a2, a3, ab, hlook, hab, _, _⟩ := look_any bm L id
  have l1 := hlook _ ((h.alloc (.cells #[.int .i64 id, .int .i64 frm, .int .i64 to, .int .i64 k] 29)).drew).map
  have l2 := fun o => hlook _ (((h.alloc (.cells #[.int .i64 id, .int .i64 frm, .int .i64 to, .int .i64 k] 29)).alloc o).drew).map
  have HRR := Lib.hid HR
  have HH := Lib.hid h
  clear hlook h HR hr
  go_enter Try.func11, Try.ntmps11
  go_wp2_with fail
  go_region
  go_wp2_with fail
  refine (HRR.out _ (((HH.out.alloc _).alloc _).drew)).mono ?_
  rintro e w1 ⟨rfl, hb1⟩
  have B1 := Lib.hid ((((Below.refl w.heap.size w).alloc (Nat.le_refl _) _).alloc (by simp) _).drew.trans (hb1.mono (by simp; omega)))
  have k0 := cell_thru hb1 (cell_old _ (cell_new w _ 29 0 rfl))
  have k1 := cell_thru hb1 (cell_old _ (cell_new w _ 29 1 rfl))
  have k2 := cell_thru hb1 (cell_old _ (cell_new w _ 29 2 rfl))
  have k3 := cell_thru hb1 (cell_old _ (cell_new w _ 29 3 rfl))
  have k4 := cell_thru hb1 (cell_old _ (cell_old _ c3))
  clear hb1
  go_wp2_with fail
  go_ret
  exact ⟨rfl, B1.out⟩

set_option maxHeartbeats 4000000 in
set_option maxRecDepth 100000 in
theorem takeB {w : World} {bk bm : Nat} {n : Int} {up fr : List Step} {L : List Slot} (h : BookIs w bk bm n up fr L) (s : Slot) (hr : rightOf n s = true) (hh : L.any (fun x => decide (x.id = s.id)) = true) :
    Calls Try.prog 11 #[.pointer (some ⟨bk, 0, none⟩), slotV s] w fun e w' => e = .returned (.int .i64 51) ∧ Below w.heap.size w w' := by
  have HR := fun (w1 : World) (h1 : BookIs w1 bk bm n up fr L) => rightAny h1 s
  rw [hr] at HR
  obtain ⟨id, frm, to, k⟩ := s
  unfold slotV at HR ⊢
  simp only at HR hh ⊢
  have c3 := h.c3
  have hlt := h.lt
  have hne : w.heap.size ≠ bk := by omega
  obtain ⟨a0, a1, a2, a3, ab, hlook, hab, _, _⟩ := look_any bm L id
  have l1 := hlook _ ((h.alloc (.cells #[.int .i64 id, .int .i64 frm, .int .i64 to, .int .i64 k] 29)).drew).map
  have l2 := fun o => hlook _ (((h.alloc (.cells #[.int .i64 id, .int .i64 frm, .int .i64 to, .int .i64 k] 29)).alloc o).drew).map
  rw [hh] at hab
  subst hab
  clear hh
  have HRR := Lib.hid HR
  have HH := Lib.hid h
  clear hlook h HR hr
  go_enter Try.func11, Try.ntmps11
  go_wp2_with fail
  go_region
  go_wp2_with fail
  refine (HRR.out _ (((HH.out.alloc _).alloc _).drew)).mono ?_
  rintro e w1 ⟨rfl, hb1⟩
  have B1 := Lib.hid ((((Below.refl w.heap.size w).alloc (Nat.le_refl _) _).alloc (by simp) _).drew.trans (hb1.mono (by simp; omega)))
  have k0 := cell_thru hb1 (cell_old _ (cell_new w _ 29 0 rfl))
  have k1 := cell_thru hb1 (cell_old _ (cell_new w _ 29 1 rfl))
  have k2 := cell_thru hb1 (cell_old _ (cell_new w _ 29 2 rfl))
  have k3 := cell_thru hb1 (cell_old _ (cell_new w _ 29 3 rfl))
  have k4 := cell_thru hb1 (cell_old _ (cell_old _ c3))
  clear hb1
  go_wp2_with fail
  go_ret
  exact ⟨rfl, B1.out⟩

set_option maxHeartbeats 4000000 in
set_option maxRecDepth 100000 in
theorem takeC {w : World} {bk bm : Nat} {n : Int} {up fr : List Step} {L : List Slot} (h : BookIs w bk bm n up fr L) (s : Slot) (hr : rightOf n s = true) (hh : L.any (fun x => decide (x.id = s.id)) = false) (hl : 9000 ≤ L.length) :
    Calls Try.prog 11 #[.pointer (some ⟨bk, 0, none⟩), slotV s] w fun e w' => e = .returned (.int .i64 3) ∧ Below w.heap.size w w' := by
  have HR := fun (w1 : World) (h1 : BookIs w1 bk bm n up fr L) => rightAny h1 s
  rw [hr] at HR
  obtain ⟨id, frm, to, k⟩ := s
  unfold slotV at HR ⊢
  simp only at HR hh ⊢
  have c3 := h.c3
  have hlt := h.lt
  have hne : w.heap.size ≠ bk := by omega
  obtain ⟨a0, a1, a2, a3, ab, hlook, hab, _, _⟩ := look_any bm L id
  have l1 := hlook _ ((h.alloc (.cells #[.int .i64 id, .int .i64 frm, .int .i64 to, .int .i64 k] 29)).drew).map
  have l2 := fun o => hlook _ (((h.alloc (.cells #[.int .i64 id, .int .i64 frm, .int .i64 to, .int .i64 k] 29)).alloc o).drew).map
  rw [hh] at hab
  subst hab
  clear hh
  have hd : decide (9000 ≤ (L.length : Int)) = true := by simp; omega
  clear hl
  have HRR := Lib.hid HR
  have HH := Lib.hid h
  clear hlook h HR hr
  go_enter Try.func11, Try.ntmps11
  go_wp2_with fail
  go_region
  go_wp2_with fail
  refine (HRR.out _ (((HH.out.alloc _).alloc _).drew)).mono ?_
  rintro e w1 ⟨rfl, hb1⟩
  have B1 := Lib.hid ((((Below.refl w.heap.size w).alloc (Nat.le_refl _) _).alloc (by simp) _).drew.trans (hb1.mono (by simp; omega)))
  have k0 := cell_thru hb1 (cell_old _ (cell_new w _ 29 0 rfl))
  have k1 := cell_thru hb1 (cell_old _ (cell_new w _ 29 1 rfl))
  have k2 := cell_thru hb1 (cell_old _ (cell_new w _ 29 2 rfl))
  have k3 := cell_thru hb1 (cell_old _ (cell_new w _ 29 3 rfl))
  have k4 := cell_thru hb1 (cell_old _ (cell_old _ c3))
  clear hb1
  go_wp2_with (at_len; refine wp_len _ rfl _ rfl bm L rfl (HH.out.below B1.out).map ?_)
  go_ret
  exact ⟨rfl, B1.out⟩

set_option maxHeartbeats 4000000 in
set_option maxRecDepth 100000 in
theorem takeD {w : World} {bk bm : Nat} {n : Int} {up fr : List Step} {L : List Slot} (h : BookIs w bk bm n up fr L) (s : Slot) (hr : rightOf n s = true) (hh : L.any (fun x => decide (x.id = s.id)) = false) (hl : L.length < 9000) (he : addErr fr s.frm s.to (-s.nodes) ≠ 0) (hk : -10000 ≤ s.nodes ∧ s.nodes ≤ 10000) :
    Calls Try.prog 11 #[.pointer (some ⟨bk, 0, none⟩), slotV s] w fun e w' => e = .returned (.int .i64 (addErr fr s.frm s.to (-s.nodes))) ∧ Below w.heap.size w w' := by
  have HR := fun (w1 : World) (h1 : BookIs w1 bk bm n up fr L) => rightAny h1 s
  rw [hr] at HR
  have HL := Lib.hid (fun (w1 : World) (h1 : BookIs w1 bk bm n up fr L) => layNo h1 s hk he)
  generalize addErr fr s.frm s.to (-s.nodes) = ee at *
  clear hk he
  obtain ⟨id, frm, to, k⟩ := s
  unfold slotV at HR HL ⊢
  simp only at HR HL hh ⊢
  have c3 := h.c3
  have hlt := h.lt
  have hne : w.heap.size ≠ bk := by omega
  obtain ⟨a0, a1, a2, a3, ab, hlook, hab, _, _⟩ := look_any bm L id
  have l1 := hlook _ ((h.alloc (.cells #[.int .i64 id, .int .i64 frm, .int .i64 to, .int .i64 k] 29)).drew).map
  have l2 := fun o => hlook _ (((h.alloc (.cells #[.int .i64 id, .int .i64 frm, .int .i64 to, .int .i64 k] 29)).alloc o).drew).map
  rw [hh] at hab
  subst hab
  clear hh
  have hd : decide (9000 ≤ (L.length : Int)) = false := by simp; omega
  clear hl
  have HRR := Lib.hid HR
  have HH := Lib.hid h
  clear hlook h HR hr
  go_enter Try.func11, Try.ntmps11
  go_wp2_with fail
  go_region
  go_wp2_with fail
  refine (HRR.out _ (((HH.out.alloc _).alloc _).drew)).mono ?_
  rintro e w1 ⟨rfl, hb1⟩
  have B1 := Lib.hid ((((Below.refl w.heap.size w).alloc (Nat.le_refl _) _).alloc (by simp) _).drew.trans (hb1.mono (by simp; omega)))
  have k0 := cell_thru hb1 (cell_old _ (cell_new w _ 29 0 rfl))
  have k1 := cell_thru hb1 (cell_old _ (cell_new w _ 29 1 rfl))
  have k2 := cell_thru hb1 (cell_old _ (cell_new w _ 29 2 rfl))
  have k3 := cell_thru hb1 (cell_old _ (cell_new w _ 29 3 rfl))
  have k4 := cell_thru hb1 (cell_old _ (cell_old _ c3))
  clear hb1
  go_wp2_with (at_len; refine wp_len _ rfl _ rfl bm L rfl (HH.out.below B1.out).map ?_)
  refine (HL.out _ (HH.out.below B1.out)).mono ?_
  rintro e w2 ⟨rfl, hb2⟩
  have HB2 := Lib.hid hb2
  clear hb2
  go_wp2_with fail
  go_ret
  exact ⟨rfl, B1.out.trans (HB2.out.mono B1.out.size)⟩

set_option maxHeartbeats 4000000 in
set_option maxRecDepth 100000 in
theorem takeE {w : World} {bk bm : Nat} {n : Int} {up fr : List Step} {L : List Slot} (h : BookIs w bk bm n up fr L) (s : Slot) (hr : rightOf n s = true) (hh : L.any (fun x => decide (x.id = s.id)) = false) (hl : L.length < 9000) (he : addErr fr s.frm s.to (-s.nodes) = 0) (hk : -10000 ≤ s.nodes ∧ s.nodes ≤ 10000) :
    Calls Try.prog 11 #[.pointer (some ⟨bk, 0, none⟩), slotV s] w fun e w' => e = .returned (.int .i64 0) ∧ LayPost w bk bm n up (addRes fr s.frm s.to (-s.nodes)) (L ++ [s]) w' := by
  have HR := fun (w1 : World) (h1 : BookIs w1 bk bm n up fr L) => rightAny h1 s
  rw [hr] at HR
  have HL := Lib.hid (fun (w1 : World) (h1 : BookIs w1 bk bm n up fr L) => layYes h1 s hk he (fun x hx hxe => by rw [Bool.eq_false_iff] at hh; exact hh (List.any_eq_true.2 ⟨x, hx, by simpa using hxe⟩)))
  generalize addRes fr s.frm s.to (-s.nodes) = rr at *
  generalize hL2 : L ++ [s] = L2 at *
  have HL2 := Lib.hid hL2
  clear hk he hL2
  obtain ⟨id, frm, to, k⟩ := s
  unfold slotV at HR HL ⊢
  simp only at HR HL hh ⊢
  have c3 := h.c3
  have hlt := h.lt
  have hne : w.heap.size ≠ bk := by omega
  obtain ⟨a0, a1, a2, a3, ab, hlook, hab, _, _⟩ := look_any bm L id
  have l1 := hlook _ ((h.alloc (.cells #[.int .i64 id, .int .i64 frm, .int .i64 to, .int .i64 k] 29)).drew).map
  have l2 := fun o => hlook _ (((h.alloc (.cells #[.int .i64 id, .int .i64 frm, .int .i64 to, .int .i64 k] 29)).alloc o).drew).map
  rw [hh] at hab
  subst hab
  clear hh
  have hd : decide (9000 ≤ (L.length : Int)) = false := by simp; omega
  clear hl
  have HRR := Lib.hid HR
  have HH := Lib.hid h
  clear hlook h HR hr
  go_enter Try.func11, Try.ntmps11
  go_wp2_with fail
  go_region
  go_wp2_with fail
  refine (HRR.out _ (((HH.out.alloc _).alloc _).drew)).mono ?_
  rintro e w1 ⟨rfl, hb1⟩
  have B1 := Lib.hid ((((Below.refl w.heap.size w).alloc (Nat.le_refl _) _).alloc (by simp) _).drew.trans (hb1.mono (by simp; omega)))
  have k0 := cell_thru hb1 (cell_old _ (cell_new w _ 29 0 rfl))
  have k1 := cell_thru hb1 (cell_old _ (cell_new w _ 29 1 rfl))
  have k2 := cell_thru hb1 (cell_old _ (cell_new w _ 29 2 rfl))
  have k3 := cell_thru hb1 (cell_old _ (cell_new w _ 29 3 rfl))
  have k4 := cell_thru hb1 (cell_old _ (cell_old _ c3))
  clear hb1
  go_wp2_with (at_len; refine wp_len _ rfl _ rfl bm L rfl (HH.out.below B1.out).map ?_)
  refine (HL.out _ (HH.out.below B1.out)).mono ?_
  rintro e w2 ⟨rfl, hb2⟩
  have HB2 := Lib.hid hb2
  clear hb2
  go_wp2_with fail
  go_ret
  exact ⟨rfl, HB2.out.1, (Kept.of_below B1.out).trans HB2.out.2.1, fun X hX hA => HB2.out.2.2 X (Nat.lt_of_lt_of_le hX B1.out.size) (hA.below B1.out hlt)⟩

end Go.Proofs.Ytjknmnmilladlaa

/-
  Walks: the book's Get, Steps, New.
-/
namespace Go.Proofs.Ytjknmnmilladlaa
open Go.RowKit

theorem frozen_new (w : World) (cs : Array Value) (t : TypeId) (o : Nat) : (w.alloc (.cells cs t)).frozen? ⟨w.heap.size, o, none⟩ = false := by
  unfold World.frozen?
  rw [heap_alloc_new]
  simp
theorem Apart.lt {w : World} {v : Value} {l : List Step} {bk : Nat} (h : IsSteps w v l) (hb : w.heap.size ≤ bk) (hn : 0 < l.length) : Apart bk v := by
  obtain ⟨b, off, cap, rfl, _, _, hlt, _⟩ := h.cells hn
  intro a n' cap' hv _
  cases hv
  simp
  omega

set_option maxHeartbeats 4000000 in
set_option maxRecDepth 100000 in
theorem getYes {w : World} {bk bm : Nat} {n : Int} {up fr : List Step} {L : List Slot} (h : BookIs w bk bm n up fr L) {s : Slot} (hs : s ∈ L) :
    Calls Try.prog 19 #[.pointer (some ⟨bk, 0, none⟩), .int .i64 s.id] w fun e w' => e = .returned (.tuple #[slotV s, .bool true]) ∧ Below w.heap.size w w' := by
  have HH := Lib.hid h
  have c3 := h.c3
  have hlt := h.lt
  have hne : w.heap.size ≠ bk := by omega
  obtain ⟨id, frm, to, k⟩ := s
  have HS := Lib.hid hs
  clear h hs
  unfold slotV
  simp only
  go_enter Try.func19, Try.ntmps19
  go_wp2_with (at_lookup; refine wp_look_yes _ rfl _ _ _ rfl bm L ⟨id, frm, to, k⟩ rfl rfl (HH.out.alloc _).map HS.out ?_; unfold slotV; simp only [if_true])
  refine bodyPost_ret (v := .tuple #[.agg #[.int .i64 id, .int .i64 frm, .int .i64 to, .int .i64 k], .bool true]) (by simp [results, Try.f19]; go_simp) rfl ?_
  exact ⟨rfl, ((Below.refl w.heap.size w).alloc (Nat.le_refl _) _).alloc (by simp) _⟩

set_option maxHeartbeats 4000000 in
set_option maxRecDepth 100000 in
theorem getNo {w : World} {bk bm : Nat} {n : Int} {up fr : List Step} {L : List Slot} (h : BookIs w bk bm n up fr L) {id : Int} (hs : ∀ s ∈ L, s.id ≠ id) :
    Calls Try.prog 19 #[.pointer (some ⟨bk, 0, none⟩), .int .i64 id] w fun e w' => e = .returned (.tuple #[slotV ⟨0, 0, 0, 0⟩, .bool false]) ∧ Below w.heap.size w w' := by
  have HH := Lib.hid h
  have c3 := h.c3
  have hlt := h.lt
  have hne : w.heap.size ≠ bk := by omega
  have HS := Lib.hid hs
  clear h hs
  unfold slotV
  simp only
  go_enter Try.func19, Try.ntmps19
  go_wp2_with (at_lookup; refine wp_look_no _ rfl _ _ _ rfl bm L id rfl rfl (HH.out.alloc _).map HS.out ?_; unfold slotV; simp only [if_true])
  refine bodyPost_ret (v := .tuple #[.agg #[.int .i64 0, .int .i64 0, .int .i64 0, .int .i64 0], .bool false]) (by simp [results, Try.f19]; go_simp) rfl ?_
  exact ⟨rfl, ((Below.refl w.heap.size w).alloc (Nat.le_refl _) _).alloc (by simp) _⟩

set_option maxHeartbeats 4000000 in
set_option maxRecDepth 100000 in
theorem stepsAny {w : World} {bk bm : Nat} {n : Int} {up fr : List Step} {L : List Slot} (h : BookIs w bk bm n up fr L) (hl : fr.length ≤ 40000) :
    Calls Try.prog 14 #[.pointer (some ⟨bk, 0, none⟩)] w fun e w' => (∃ v, e = .returned v ∧ OwnSteps w' w.heap.size v fr) ∧ Below w.heap.size w w' := by
  obtain ⟨vf, c2, f2, f3⟩ := h.c2
  have HC := Lib.hid (cloneAny f2 hl)
  clear f2 f3 h
  go_enter Try.func14, Try.ntmps14
  go_wp2_with fail
  refine (HC.out).mono ?_
  rintro e w1 ⟨⟨v, rfl, hv⟩, hb1⟩
  have HV := Lib.hid hv
  have HB := Lib.hid hb1
  clear hv hb1
  go_wp2_with fail
  go_ret
  exact ⟨⟨_, rfl, HV.out⟩, HB.out⟩

set_option maxHeartbeats 4000000 in
set_option maxRecDepth 100000 in
theorem newNo (n : Int) (w : World) (h : n < 1 ∨ 10000 < n) :
    Calls Try.prog 10 #[.int .i64 n] w fun e w' => e = .returned (.tuple #[.pointer none, .int .i64 2]) ∧ Below w.heap.size w w' := by
  by_cases h2 : n < 0 ∨ 10000 < n
  · have HN := Lib.hid (stepsNewNo n w h2)
    go_enter Try.func10, Try.ntmps10
    go_wp2_with fail
    refine (HN.out).mono ?_
    rintro e w1 ⟨rfl, rfl⟩
    go_wp2_with fail
    go_ret2
    exact ⟨rfl, Below.refl _ _⟩
  · have h3 : n = 0 := by omega
    subst h3
    have HN := Lib.hid (stepsNewYes 0 w (by omega) (by omega))
    go_enter Try.func10, Try.ntmps10
    go_wp2_with fail
    refine (HN.out).mono ?_
    rintro e w1 ⟨⟨v, rfl, hv⟩, hb1⟩
    have HB := Lib.hid hb1
    clear hv hb1
    go_wp2_with fail
    go_ret2
    exact ⟨rfl, HB.out⟩

set_option maxHeartbeats 4000000 in
set_option maxRecDepth 100000 in
theorem newYes (n : Int) (w : World) (h : 1 ≤ n) (h2 : n ≤ 10000) :
    Calls Try.prog 10 #[.int .i64 n] w fun e w' => (∃ bk bm, e = .returned (.tuple #[.pointer (some ⟨bk, 0, none⟩), .int .i64 0]) ∧ BookIs w' bk bm n [⟨0, n⟩] [⟨0, n⟩] [] ∧ w.heap.size ≤ bk ∧ w.heap.size ≤ bm) ∧ Below w.heap.size w w' := by
  have HN := Lib.hid (stepsNewYes n w (by omega) h2)
  have hd : decide (n < 1) = false := by simp; omega
  have hmm := @run_makeMap Try.prog
  go_enter Try.func10, Try.ntmps10
  go_wp2_with fail
  refine (HN.out).mono ?_
  rintro e w1 ⟨⟨v, rfl, hv⟩, hb1⟩
  obtain ⟨ao, cp, rfl, _, _⟩ := IsRow.shape hv.is
  have HC := Lib.hid (cloneAny hv.is (by simp))
  have HV := Lib.hid hv
  have HB := Lib.hid hb1
  clear hv hb1
  go_wp2_with fail
  refine (HC.out).mono ?_
  rintro e w2 ⟨⟨v2, rfl, hv2⟩, hb2⟩
  obtain ⟨ao2, cp2, rfl, _, _⟩ := IsRow.shape hv2.is
  have HV2 := Lib.hid hv2
  have HB2 := Lib.hid hb2
  clear hv2 hb2
  go_wp2_with fail
  go_ret2
  have hB12 : Below w.heap.size w w2 := HB.out.trans (HB2.out.mono HB.out.size)
  have hBn : Below w2.heap.size w2 (((w2.alloc (Obj.map #[] 0)).alloc (Obj.cells #[.int .i64 n, .slice ao 1 cp, .slice ao2 1 cp2, .map (some w2.heap.size)] 74))) := ((Below.refl _ _).alloc (Nat.le_refl _) _).alloc (by simp) _
  have hsz : (w2.alloc (Obj.map #[] 0)).heap.size = w2.heap.size + 1 := by simp
  refine ⟨⟨w2.heap.size + 1, w2.heap.size, rfl, ⟨?_, ⟨_, ?_, (HV.out.is.below HB2.out).below hBn, ?_⟩, ⟨_, ?_, HV2.out.is.below hBn, ?_⟩, ?_, ?_, ?_⟩, ?_, hB12.size⟩, hB12.trans (hBn.mono hB12.size)⟩
  · rw [← hsz]; exact cell_new _ _ 74 0 rfl
  · rw [← hsz]; exact cell_new _ _ 74 1 rfl
  · exact Apart.lt HV.out.is (Nat.le_trans HB2.out.size (Nat.le_succ _)) (by simp)
  · rw [← hsz]; exact cell_new _ _ 74 2 rfl
  · exact Apart.lt HV2.out.is (Nat.le_succ _) (by simp)
  · rw [← hsz]; exact cell_new _ _ 74 3 rfl
  · intro o; rw [← hsz]; exact frozen_new _ _ 74 o
  · exact (MapIs.made w2).alloc _
  · have := hB12.size; omega

end Go.Proofs.Ytjknmnmilladlaa

/-
  Walks: the book's Cut. (Printed by gen15.py.)
-/
namespace Go.Proofs.Ytjknmnmilladlaa
open Go.RowKit

theorem Kept.frozen {bk bm : Nat} {w w' : World} (h : Kept bk bm w w') {b o : Nat} (hb : b < w.heap.size) (h1 : b ≠ bk) (h2 : b ≠ bm) : w'.frozen? ⟨b, o, none⟩ = w.frozen? ⟨b, o, none⟩ := World.frozen?_of_block (w := w) (h.block b hb h1 h2)

/-- A new block of cells, behind a step that keeps all but the book. -/
theorem kept_new {bk bm : Nat} {w w1 : World} (cs : Array Value) (t : TypeId) (h : Kept bk bm (w.alloc (.cells cs t)) w1) (h1 : bk < w.heap.size) (h2 : bm < w.heap.size) :
    (∀ o u, cs[o]? = some u → w1.cell? ⟨w.heap.size, o, none⟩ = some u) ∧ ∀ o, w1.frozen? ⟨w.heap.size, o, none⟩ = false :=
  ⟨fun o u hu => (h.cell (by simp) (by omega) (by omega)).trans (cell_new w cs t o hu), fun o => (h.frozen (by simp) (by omega) (by omega)).trans (frozen_new w cs t o)⟩

theorem Kept.setNew {bk bm : Nat} {a w : World} (h : Kept bk bm a w) {X : Nat} (hX : a.heap.size ≤ X) (o : Nat) (u : Value) : Kept bk bm a (w.setCell ⟨X, o, none⟩ u) :=
  ⟨h.os, h.tape, h.output, by simpa [World.setCell] using h.size, fun k hk h1 h2 => (Below.heap_setCell w ⟨X, o, none⟩ u k (by simp; omega)).trans (h.block k hk h1 h2)⟩
theorem AwayB.setOut {w : World} {bk X Y : Nat} (h : AwayB w bk Y) (hX : X ≠ bk) (o : Nat) (u : Value) : AwayB (w.setCell ⟨X, o, none⟩ u) bk Y := by
  intro v hv
  rw [cell_set_other (.inl (Ne.symm hX)), cell_set_other (.inl (Ne.symm hX))] at hv
  exact h v hv
/-- A box laid ahead, a step on the book, a store into the box. -/
theorem LayPost.boxed {w w1 : World} {bk bm : Nat} {n : Int} {up fr fr2 : List Step} {L L2 : List Slot} (h : BookIs w bk bm n up fr L) (ob : Obj) (hP : LayPost (w.alloc ob) bk bm n up fr2 L2 w1) (o : Nat) (u : Value) :
    LayPost w bk bm n up fr2 L2 (w1.setCell ⟨w.heap.size, o, none⟩ u) := by
  have hlt := h.lt
  have hne : w.heap.size ≠ bk := by omega
  have hal : Below w.heap.size w (w.alloc ob) := (Below.refl _ _).alloc (Nat.le_refl _) _
  refine ⟨hP.1.setOut hne (hP.2.2 _ (by simp) ((h.away (Nat.le_refl _)).below hal hlt)) o u, (((Kept.refl bk bm w).alloc ob).trans hP.2.1).setNew (Nat.le_refl _) o u, fun Y hY hA => (hP.2.2 Y (by simp; omega) (hA.below hal hlt)).setOut hne o u⟩
theorem LayPost.trans {w w1 w2 : World} {bk bm : Nat} {n : Int} {up fr fr2 : List Step} {L L2 : List Slot} (hP : LayPost w bk bm n up fr L w1) (hQ : LayPost w1 bk bm n up fr2 L2 w2) : LayPost w bk bm n up fr2 L2 w2 :=
  ⟨hQ.1, hP.2.1.trans hQ.2.1, fun X hX hA => hQ.2.2 X (Nat.lt_of_lt_of_le hX hP.2.1.size) (hP.2.2 X hX hA)⟩
theorem LayPost.ahead {w w1 w2 : World} {bk bm : Nat} {n : Int} {up fr : List Step} {L : List Slot} (hb : Below w.heap.size w w1) (hlt : bk < w.heap.size) (hQ : LayPost w1 bk bm n up fr L w2) : LayPost w bk bm n up fr L w2 :=
  ⟨hQ.1, (Kept.of_below hb).trans hQ.2.1, fun X hX hA => hQ.2.2 X (Nat.lt_of_lt_of_le hX hb.size) (hA.below hb hlt)⟩
theorem LayPost.behind {w w1 w2 : World} {bk bm : Nat} {n : Int} {up fr : List Step} {L : List Slot} (hP : LayPost w bk bm n up fr L w1) (hb : Below w1.heap.size w1 w2) : LayPost w bk bm n up fr L w2 :=
  ⟨hP.1.below hb, hP.2.1.trans (Kept.of_below hb), fun X hX hA => (hP.2.2 X hX hA).below hb hP.1.lt⟩
theorem without_ne (L : List Slot) (id : Int) : ∀ x ∈ without L id, x.id ≠ id := by
  intro x hx
  unfold without at hx
  rw [List.mem_filter] at hx
  simpa using hx.2

set_option maxHeartbeats 4000000 in
set_option maxRecDepth 100000 in
theorem cutBkNil (id to : Int) (w : World) : Calls Try.prog 20 #[.pointer none, .int .i64 id, .int .i64 to] w fun e w' => e = .returned (.int .i64 1) ∧ Below w.heap.size w w' := by
  go_enter Try.func20, Try.ntmps20
  go_wp2_with fail
  go_ret
  exact ⟨rfl, Below.refl _ _⟩

set_option maxHeartbeats 4000000 in
set_option maxRecDepth 100000 in
theorem cutBkA {w : World} {bk bm : Nat} {n : Int} {up fr : List Step} {L : List Slot} (h : BookIs w bk bm n up fr L) (id to : Int) (hs : ∀ s ∈ L, s.id ≠ id) :
    Calls Try.prog 20 #[.pointer (some ⟨bk, 0, none⟩), .int .i64 id, .int .i64 to] w fun e w' => e = .returned (.int .i64 4) ∧ Below w.heap.size w w' := by
  have HH := Lib.hid h
  have c3 := h.c3
  have hlt := h.lt
  have hne : w.heap.size ≠ bk := by omega
  have HS := Lib.hid hs
  clear h hs
  go_enter Try.func20, Try.ntmps20
  go_wp2_with (at_lookup; refine wp_look_no _ rfl _ _ _ rfl bm L id rfl rfl HH.out.map HS.out ?_; unfold slotV; simp only [if_true])
  go_ret
  exact ⟨rfl, (Below.refl w.heap.size w).alloc (Nat.le_refl _) _⟩

set_option maxHeartbeats 4000000 in
set_option maxRecDepth 100000 in
theorem cutBkB {w : World} {bk bm : Nat} {n : Int} {up fr : List Step} {L : List Slot} (h : BookIs w bk bm n up fr L) {s : Slot} (hs : s ∈ L) (to : Int) (ht : isT to = false) :
    Calls Try.prog 20 #[.pointer (some ⟨bk, 0, none⟩), .int .i64 s.id, .int .i64 to] w fun e w' => e = .returned (.int .i64 2) ∧ Below w.heap.size w w' := by
  have c3 := h.c3
  have hlt := h.lt
  have hltm := h.map.lt
  have hne : w.heap.size ≠ bk := by omega
  have KT := Lib.hid ht
  clear ht
  have HS := Lib.hid hs
  have HH := Lib.hid h
  clear h hs
  obtain ⟨id, f0, t0, k⟩ := s
  simp only
  go_enter Try.func20, Try.ntmps20
  go_wp2_with (at_lookup; refine wp_look_yes _ rfl _ _ _ rfl bm L ⟨id, f0, t0, k⟩ rfl rfl HH.out.map HS.out ?_; unfold slotV; simp only [if_true])
  refine (clockF to _ KT.out).mono ?_
  rintro e w1 ⟨rfl, rfl⟩
  go_wp2_with fail
  go_ret
  exact ⟨rfl, (Below.refl w.heap.size w).alloc (Nat.le_refl _) _⟩

set_option maxHeartbeats 4000000 in
set_option maxRecDepth 100000 in
theorem cutBkC {w : World} {bk bm : Nat} {n : Int} {up fr : List Step} {L : List Slot} (h : BookIs w bk bm n up fr L) {s : Slot} (hs : s ∈ L) (to : Int) (ht : isT to = true) (h2 : s.to < to) :
    Calls Try.prog 20 #[.pointer (some ⟨bk, 0, none⟩), .int .i64 s.id, .int .i64 to] w fun e w' => e = .returned (.int .i64 2) ∧ Below w.heap.size w w' := by
  have c3 := h.c3
  have hlt := h.lt
  have hltm := h.map.lt
  have hne : w.heap.size ≠ bk := by omega
  have KT := Lib.hid ht
  clear ht
  have HS := Lib.hid hs
  have HH := Lib.hid h
  clear h hs
  obtain ⟨id, f0, t0, k⟩ := s
  simp only at h2 ⊢
  have hd : decide (t0 < to) = true := by simpa using h2
  go_enter Try.func20, Try.ntmps20
  go_wp2_with (at_lookup; refine wp_look_yes _ rfl _ _ _ rfl bm L ⟨id, f0, t0, k⟩ rfl rfl HH.out.map HS.out ?_; unfold slotV; simp only [if_true])
  refine (clockT to _ KT.out).mono ?_
  rintro e w1 ⟨rfl, rfl⟩
  go_wp2_with fail
  go_ret
  exact ⟨rfl, (Below.refl w.heap.size w).alloc (Nat.le_refl _) _⟩

set_option maxHeartbeats 4000000 in
set_option maxRecDepth 100000 in
theorem cutBkD {w : World} {bk bm : Nat} {n : Int} {up fr : List Step} {L : List Slot} (h : BookIs w bk bm n up fr L) {s : Slot} (hs : s ∈ L) (to : Int) (ht : isT to = true) (h2 : to ≤ s.to) (h3 : to ≤ s.frm) :
    Calls Try.prog 20 #[.pointer (some ⟨bk, 0, none⟩), .int .i64 s.id, .int .i64 to] w fun e w' => e = .returned (.int .i64 0) ∧ LayPost w bk bm n up (addRes fr s.frm s.to s.nodes) (without L s.id) w' := by
  have c3 := h.c3
  have hlt := h.lt
  have hltm := h.map.lt
  have hne : w.heap.size ≠ bk := by omega
  have KT := Lib.hid ht
  clear ht
  have KD := Lib.hid (fun (w1 : World) (h1 : BookIs w1 bk bm n up fr L) => dropAny h1 hs)
  have HS := Lib.hid hs
  have HH := Lib.hid h
  clear h hs
  obtain ⟨id, f0, t0, k⟩ := s
  simp only at h2 h3 KD ⊢
  have hd : decide (t0 < to) = false := by simpa using h2
  have hd2 : decide (f0 < to) = false := by simpa using h3
  clear h2 h3
  go_enter Try.func20, Try.ntmps20
  go_wp2_with (at_lookup; refine wp_look_yes _ rfl _ _ _ rfl bm L ⟨id, f0, t0, k⟩ rfl rfl HH.out.map HS.out ?_; unfold slotV; simp only [if_true])
  refine (clockT to _ KT.out).mono ?_
  rintro e w1 ⟨rfl, rfl⟩
  go_wp2_with fail
  refine (KD.out _ (HH.out.alloc _)).mono ?_
  rintro e w1 ⟨rfl, hP⟩
  have hN := kept_new _ 29 hP.2.1 hlt hltm
  have k0 := hN.1 0 _ rfl
  have k1 := hN.1 1 _ rfl
  have k2 := hN.1 2 _ rfl
  have k3 := hN.1 3 _ rfl
  have g2 := hN.2 2
  clear hN
  have hP2 := LayPost.boxed HH.out _ hP 2 (.int .i64 to)
  have HP := Lib.hid hP
  have HP2 := Lib.hid hP2
  clear hP hP2
  go_wp2_with fail
  go_ret
  exact ⟨rfl, HP2.out⟩

set_option maxHeartbeats 4000000 in
set_option maxRecDepth 100000 in
theorem cutBkE {w : World} {bk bm : Nat} {n : Int} {up fr : List Step} {L : List Slot} (h : BookIs w bk bm n up fr L) {s : Slot} (hs : s ∈ L) (to : Int) (ht : isT to = true) (h2 : to ≤ s.to) (h3 : s.frm < to) (hk : -10000 ≤ s.nodes ∧ s.nodes ≤ 10000) (he : addErr (addRes fr s.frm s.to s.nodes) s.frm to (-s.nodes) = 0) :
    Calls Try.prog 20 #[.pointer (some ⟨bk, 0, none⟩), .int .i64 s.id, .int .i64 to] w fun e w' => e = .returned (.int .i64 0) ∧ LayPost w bk bm n up (addRes (addRes fr s.frm s.to s.nodes) s.frm to (-s.nodes)) (without L s.id ++ [⟨s.id, s.frm, to, s.nodes⟩]) w' := by
  have c3 := h.c3
  have hlt := h.lt
  have hltm := h.map.lt
  have hne : w.heap.size ≠ bk := by omega
  have KT := Lib.hid ht
  clear ht
  have KD := Lib.hid (fun (w1 : World) (h1 : BookIs w1 bk bm n up fr L) => dropAny h1 hs)
  have KL := Lib.hid (fun (w1 : World) (h1 : BookIs w1 bk bm n up (addRes fr s.frm s.to s.nodes) (without L s.id)) => layYes h1 ⟨s.id, s.frm, to, s.nodes⟩ hk he (without_ne L s.id))
  have HS := Lib.hid hs
  have HH := Lib.hid h
  clear h hs
  obtain ⟨id, f0, t0, k⟩ := s
  simp only at h2 h3 KD KL ⊢
  unfold slotV at KL
  simp only at KL
  have hd : decide (t0 < to) = false := by simpa using h2
  have hd2 : decide (f0 < to) = true := by simpa using h3
  clear h2 h3 hk he
  go_enter Try.func20, Try.ntmps20
  go_wp2_with (at_lookup; refine wp_look_yes _ rfl _ _ _ rfl bm L ⟨id, f0, t0, k⟩ rfl rfl HH.out.map HS.out ?_; unfold slotV; simp only [if_true])
  refine (clockT to _ KT.out).mono ?_
  rintro e w1 ⟨rfl, rfl⟩
  go_wp2_with fail
  refine (KD.out _ (HH.out.alloc _)).mono ?_
  rintro e w1 ⟨rfl, hP⟩
  have hN := kept_new _ 29 hP.2.1 hlt hltm
  have k0 := hN.1 0 _ rfl
  have k1 := hN.1 1 _ rfl
  have k2 := hN.1 2 _ rfl
  have k3 := hN.1 3 _ rfl
  have g2 := hN.2 2
  clear hN
  have hP2 := LayPost.boxed HH.out _ hP 2 (.int .i64 to)
  have HP := Lib.hid hP
  have HP2 := Lib.hid hP2
  clear hP hP2
  go_wp2_with fail
  refine (KL.out _ HP2.out.1).mono ?_
  rintro e w2 ⟨rfl, hQ⟩
  have HQ := Lib.hid hQ
  clear hQ
  go_wp2_with fail
  go_ret
  exact ⟨rfl, HP2.out.trans HQ.out⟩

end Go.Proofs.Ytjknmnmilladlaa

/-
  Walks: the book's Move. (Printed by gen16.py.)
-/
namespace Go.Proofs.Ytjknmnmilladlaa
open Go.RowKit

theorem kept_cell {bk bm : Nat} {w w' : World} (h : Kept bk bm w w') {b o : Nat} {u : Value} (hc : w.cell? ⟨b, o, none⟩ = some u) (h1 : b ≠ bk) (h2 : b ≠ bm) : w'.cell? ⟨b, o, none⟩ = some u :=
  (h.cell (World.block_lt_of_cell? w _ hc) h1 h2).trans hc
theorem add_wrap {a b : Int} (h1 : isT a = true) (h2 : isT b = true) : IntKind.i64.wrap (a + b) = a + b := by
  rw [isT_iff] at h1 h2
  unfold IntKind.wrap
  simp [IntKind.signed, IntKind.bits]
  omega
theorem sub_wrap {a b c : Int} (h1 : isT a = true) (h2 : isT b = true) (h3 : isT c = true) : IntKind.i64.wrap (a + b - c) = a + b - c := by
  rw [isT_iff] at h1 h2 h3
  unfold IntKind.wrap
  simp [IntKind.signed, IntKind.bits]
  omega

set_option maxHeartbeats 4000000 in
set_option maxRecDepth 100000 in
theorem moveNil (id frm : Int) (w : World) : Calls Try.prog 29 #[.pointer none, .int .i64 id, .int .i64 frm] w fun e w' => e = .returned (.int .i64 1) ∧ Below w.heap.size w w' := by
  go_enter Try.func29, Try.ntmps29
  go_wp2_with fail
  go_ret
  exact ⟨rfl, Below.refl _ _⟩

set_option maxHeartbeats 4000000 in
set_option maxRecDepth 100000 in
theorem moveA {w : World} {bk bm : Nat} {n : Int} {up fr : List Step} {L : List Slot} (h : BookIs w bk bm n up fr L) (id frm : Int) (hs : ∀ s ∈ L, s.id ≠ id) :
    Calls Try.prog 29 #[.pointer (some ⟨bk, 0, none⟩), .int .i64 id, .int .i64 frm] w fun e w' => e = .returned (.int .i64 4) ∧ Below w.heap.size w w' := by
  have HH := Lib.hid h
  have c3 := h.c3
  have hlt := h.lt
  have hne : w.heap.size ≠ bk := by omega
  have HS := Lib.hid hs
  clear h hs
  go_enter Try.func29, Try.ntmps29
  go_wp2_with (at_lookup; refine wp_look_no _ rfl _ _ _ rfl bm L id rfl rfl HH.out.map HS.out ?_; unfold slotV; simp only [if_true])
  go_ret
  exact ⟨rfl, (Below.refl w.heap.size w).alloc (Nat.le_refl _) _⟩

/-- What Move would make of a slot. -/
def moved (s : Slot) (frm : Int) : Slot := ⟨s.id, frm, frm + s.to - s.frm, s.nodes⟩

set_option maxHeartbeats 4000000 in
set_option maxRecDepth 100000 in
theorem moveB {w : World} {bk bm : Nat} {n : Int} {up fr : List Step} {L : List Slot} (h : BookIs w bk bm n up fr L) {s : Slot} (hs : s ∈ L) (frm : Int) (ht : isT frm = false) :
    Calls Try.prog 29 #[.pointer (some ⟨bk, 0, none⟩), .int .i64 s.id, .int .i64 frm] w fun e w' => e = .returned (.int .i64 2) ∧ Below w.heap.size w w' := by
  have c3 := h.c3
  have hlt := h.lt
  have hltm := h.map.lt
  have hne : w.heap.size ≠ bk := by omega
  have KT := Lib.hid ht
  clear ht
  have HS := Lib.hid hs
  have HH := Lib.hid h
  clear h hs
  obtain ⟨id, f0, t0, k⟩ := s
  simp only
  go_enter Try.func29, Try.ntmps29
  go_wp2_with (at_lookup; refine wp_look_yes _ rfl _ _ _ rfl bm L ⟨id, f0, t0, k⟩ rfl rfl HH.out.map HS.out ?_; unfold slotV; simp only [if_true])
  refine (clockF frm _ KT.out).mono ?_
  rintro e w1 ⟨rfl, rfl⟩
  go_wp2_with fail
  go_ret
  exact ⟨rfl, ((Below.refl w.heap.size w).alloc (Nat.le_refl _) _).alloc (by simp) _⟩

set_option maxHeartbeats 4000000 in
set_option maxRecDepth 100000 in
theorem moveC {w : World} {bk bm : Nat} {n : Int} {up fr : List Step} {L : List Slot} (h : BookIs w bk bm n up fr L) {s : Slot} (hs : s ∈ L) (frm : Int) (ht : isT frm = true) (hf : isT s.frm = true) (hu : isT s.to = true) (hr : rightOf n (moved s frm) = false) :
    Calls Try.prog 29 #[.pointer (some ⟨bk, 0, none⟩), .int .i64 s.id, .int .i64 frm] w fun e w' => e = .returned (.int .i64 2) ∧ Below w.heap.size w w' := by
  have c3 := h.c3
  have hlt := h.lt
  have hltm := h.map.lt
  have hne : w.heap.size ≠ bk := by omega
  have KR := Lib.hid (fun (w1 : World) (h1 : BookIs w1 bk bm n up fr L) => (hr ▸ rightAny h1 (moved s frm) : Calls Try.prog 33 #[.pointer (some ⟨bk, 0, none⟩), slotV (moved s frm)] w1 fun e w' => e = .returned (.bool false) ∧ Below w1.heap.size w1 w'))
  have hw1 := add_wrap ht hu
  have hw2 := sub_wrap ht hu hf
  clear hf hu hr
  have KT := Lib.hid ht
  clear ht
  have HS := Lib.hid hs
  have HH := Lib.hid h
  clear h hs
  obtain ⟨id, f0, t0, k⟩ := s
  unfold moved slotV at KR
  simp only at KR hw1 hw2 ⊢
  go_enter Try.func29, Try.ntmps29
  go_wp2_with (at_lookup; refine wp_look_yes _ rfl _ _ _ rfl bm L ⟨id, f0, t0, k⟩ rfl rfl HH.out.map HS.out ?_; unfold slotV; simp only [if_true])
  refine (clockT frm _ KT.out).mono ?_
  rintro e w1 ⟨rfl, rfl⟩
  go_wp2_with fail
  refine (KR.out _ (((HH.out.alloc _).alloc _))).mono ?_
  rintro e w1 ⟨rfl, hb1⟩
  have B1 := Lib.hid ((((Below.refl w.heap.size w).alloc (Nat.le_refl _) _).alloc (by simp) _).trans (hb1.mono (by simp; omega)))
  clear hb1
  go_wp2_with fail
  go_ret
  exact ⟨rfl, B1.out⟩

set_option maxHeartbeats 4000000 in
set_option maxRecDepth 100000 in
theorem moveE {w : World} {bk bm : Nat} {n : Int} {up fr : List Step} {L : List Slot} (h : BookIs w bk bm n up fr L) {s : Slot} (hs : s ∈ L) (frm : Int) (ht : isT frm = true) (hf : isT s.frm = true) (hu : isT s.to = true) (hr : rightOf n (moved s frm) = true) (hk : -10000 ≤ s.nodes ∧ s.nodes ≤ 10000) (he : addErr (addRes fr s.frm s.to s.nodes) (moved s frm).frm (moved s frm).to (-(moved s frm).nodes) = 0) :
    Calls Try.prog 29 #[.pointer (some ⟨bk, 0, none⟩), .int .i64 s.id, .int .i64 frm] w fun e w' => e = .returned (.int .i64 0) ∧ LayPost w bk bm n up (addRes (addRes fr s.frm s.to s.nodes) (moved s frm).frm (moved s frm).to (-(moved s frm).nodes)) (without L s.id ++ [moved s frm]) w' := by
  have c3 := h.c3
  have hlt := h.lt
  have hltm := h.map.lt
  have hne : w.heap.size ≠ bk := by omega
  have KL := Lib.hid (fun (w1 : World) (h1 : BookIs w1 bk bm n up (addRes fr s.frm s.to s.nodes) (without L s.id)) => layYes h1 (moved s frm) hk he (without_ne L s.id))
  generalize addRes (addRes fr s.frm s.to s.nodes) (moved s frm).frm (moved s frm).to (-(moved s frm).nodes) = rr at *
  generalize hL2 : without L s.id ++ [moved s frm] = L2 at *
  have HL2 := Lib.hid hL2
  clear hL2
  have KR := Lib.hid (fun (w1 : World) (h1 : BookIs w1 bk bm n up fr L) => (hr ▸ rightAny h1 (moved s frm) : Calls Try.prog 33 #[.pointer (some ⟨bk, 0, none⟩), slotV (moved s frm)] w1 fun e w' => e = .returned (.bool true) ∧ Below w1.heap.size w1 w'))
  have hw1 := add_wrap ht hu
  have hw2 := sub_wrap ht hu hf
  clear hf hu hr
  have KT := Lib.hid ht
  clear ht
  have KD := Lib.hid (fun (w1 : World) (h1 : BookIs w1 bk bm n up fr L) => dropAny h1 hs)
  clear hk he
  have HS := Lib.hid hs
  have HH := Lib.hid h
  clear h hs
  obtain ⟨id, f0, t0, k⟩ := s
  unfold moved slotV at KL
  unfold moved slotV at KR
  simp only at KR hw1 hw2 KD KL ⊢
  go_enter Try.func29, Try.ntmps29
  go_wp2_with (at_lookup; refine wp_look_yes _ rfl _ _ _ rfl bm L ⟨id, f0, t0, k⟩ rfl rfl HH.out.map HS.out ?_; unfold slotV; simp only [if_true])
  refine (clockT frm _ KT.out).mono ?_
  rintro e w1 ⟨rfl, rfl⟩
  go_wp2_with fail
  refine (KR.out _ (((HH.out.alloc _).alloc _))).mono ?_
  rintro e w1 ⟨rfl, hb1⟩
  have B1 := Lib.hid ((((Below.refl w.heap.size w).alloc (Nat.le_refl _) _).alloc (by simp) _).trans (hb1.mono (by simp; omega)))
  have a0 := cell_thru hb1 (cell_old _ (cell_new w _ 29 0 rfl))
  have a1 := cell_thru hb1 (cell_old _ (cell_new w _ 29 1 rfl))
  have a2 := cell_thru hb1 (cell_old _ (cell_new w _ 29 2 rfl))
  have a3 := cell_thru hb1 (cell_old _ (cell_new w _ 29 3 rfl))
  have hsz : (w.alloc (.cells #[.int .i64 id, .int .i64 f0, .int .i64 t0, .int .i64 k] 29)).heap.size = w.heap.size + 1 := by simp
  have b0 := cell_thru hb1 (cell_new (w.alloc (.cells #[.int .i64 id, .int .i64 f0, .int .i64 t0, .int .i64 k] 29)) _ 29 0 rfl)
  rw [hsz] at b0
  have b1 := cell_thru hb1 (cell_new (w.alloc (.cells #[.int .i64 id, .int .i64 f0, .int .i64 t0, .int .i64 k] 29)) _ 29 1 rfl)
  rw [hsz] at b1
  have b2 := cell_thru hb1 (cell_new (w.alloc (.cells #[.int .i64 id, .int .i64 f0, .int .i64 t0, .int .i64 k] 29)) _ 29 2 rfl)
  rw [hsz] at b2
  have b3 := cell_thru hb1 (cell_new (w.alloc (.cells #[.int .i64 id, .int .i64 f0, .int .i64 t0, .int .i64 k] 29)) _ 29 3 rfl)
  rw [hsz] at b3
  clear hb1
  go_wp2_with fail
  refine (KD.out _ (HH.out.below B1.out)).mono ?_
  rintro e w2 ⟨rfl, hP⟩
  have n1 : w.heap.size + 1 ≠ bk := by omega
  have n2 : w.heap.size ≠ bm := by omega
  have n3 : w.heap.size + 1 ≠ bm := by omega
  have p0 := kept_cell hP.2.1 a0 hne n2
  have p1 := kept_cell hP.2.1 a1 hne n2
  have p2 := kept_cell hP.2.1 a2 hne n2
  have p3 := kept_cell hP.2.1 a3 hne n2
  have q0 := kept_cell hP.2.1 b0 n1 n3
  have q1 := kept_cell hP.2.1 b1 n1 n3
  have q2 := kept_cell hP.2.1 b2 n1 n3
  have q3 := kept_cell hP.2.1 b3 n1 n3
  have HP := Lib.hid (LayPost.ahead B1.out hlt hP)
  clear hP n1 n2 n3
  go_wp2_with fail
  refine (KL.out _ HP.out.1).mono ?_
  rintro e w3 ⟨rfl, hQ⟩
  have HQ := Lib.hid hQ
  clear hQ
  go_wp2_with fail
  go_ret
  exact ⟨rfl, HP.out.trans HQ.out⟩

set_option maxHeartbeats 4000000 in
set_option maxRecDepth 100000 in
theorem moveD {w : World} {bk bm : Nat} {n : Int} {up fr : List Step} {L : List Slot} (h : BookIs w bk bm n up fr L) {s : Slot} (hs : s ∈ L) (frm : Int) (ht : isT frm = true) (hf : isT s.frm = true) (hu : isT s.to = true) (hr : rightOf n (moved s frm) = true) (hk : -10000 ≤ s.nodes ∧ s.nodes ≤ 10000) (he : addErr (addRes fr s.frm s.to s.nodes) (moved s frm).frm (moved s frm).to (-(moved s frm).nodes) ≠ 0) (he2 : addErr (addRes fr s.frm s.to s.nodes) s.frm s.to (-s.nodes) = 0) :
    Calls Try.prog 29 #[.pointer (some ⟨bk, 0, none⟩), .int .i64 s.id, .int .i64 frm] w fun e w' => e = .returned (.int .i64 (addErr (addRes fr s.frm s.to s.nodes) (moved s frm).frm (moved s frm).to (-(moved s frm).nodes))) ∧ LayPost w bk bm n up (addRes (addRes fr s.frm s.to s.nodes) s.frm s.to (-s.nodes)) (without L s.id ++ [s]) w' := by
  have c3 := h.c3
  have hlt := h.lt
  have hltm := h.map.lt
  have hne : w.heap.size ≠ bk := by omega
  have KN := Lib.hid (fun (w1 : World) (h1 : BookIs w1 bk bm n up (addRes fr s.frm s.to s.nodes) (without L s.id)) => layNo h1 (moved s frm) hk he)
  have KL := Lib.hid (fun (w1 : World) (h1 : BookIs w1 bk bm n up (addRes fr s.frm s.to s.nodes) (without L s.id)) => layYes h1 s hk he2 (without_ne L s.id))
  generalize addErr (addRes fr s.frm s.to s.nodes) (moved s frm).frm (moved s frm).to (-(moved s frm).nodes) = ee at *
  generalize addRes (addRes fr s.frm s.to s.nodes) s.frm s.to (-s.nodes) = rr at *
  generalize hL2 : without L s.id ++ [s] = L2 at *
  have HL2 := Lib.hid hL2
  clear hL2
  have KR := Lib.hid (fun (w1 : World) (h1 : BookIs w1 bk bm n up fr L) => (hr ▸ rightAny h1 (moved s frm) : Calls Try.prog 33 #[.pointer (some ⟨bk, 0, none⟩), slotV (moved s frm)] w1 fun e w' => e = .returned (.bool true) ∧ Below w1.heap.size w1 w'))
  have hw1 := add_wrap ht hu
  have hw2 := sub_wrap ht hu hf
  clear hf hu hr
  have KT := Lib.hid ht
  clear ht
  have KD := Lib.hid (fun (w1 : World) (h1 : BookIs w1 bk bm n up fr L) => dropAny h1 hs)
  have hd : (ee == 0) = false := by simpa using he
  clear hk he he2
  have HS := Lib.hid hs
  have HH := Lib.hid h
  clear h hs
  obtain ⟨id, f0, t0, k⟩ := s
  unfold moved slotV at KN
  unfold slotV at KL
  unfold moved slotV at KR
  simp only at KR hw1 hw2 KD KL KN ⊢
  go_enter Try.func29, Try.ntmps29
  go_wp2_with (at_lookup; refine wp_look_yes _ rfl _ _ _ rfl bm L ⟨id, f0, t0, k⟩ rfl rfl HH.out.map HS.out ?_; unfold slotV; simp only [if_true])
  refine (clockT frm _ KT.out).mono ?_
  rintro e w1 ⟨rfl, rfl⟩
  go_wp2_with fail
  refine (KR.out _ (((HH.out.alloc _).alloc _))).mono ?_
  rintro e w1 ⟨rfl, hb1⟩
  have B1 := Lib.hid ((((Below.refl w.heap.size w).alloc (Nat.le_refl _) _).alloc (by simp) _).trans (hb1.mono (by simp; omega)))
  have a0 := cell_thru hb1 (cell_old _ (cell_new w _ 29 0 rfl))
  have a1 := cell_thru hb1 (cell_old _ (cell_new w _ 29 1 rfl))
  have a2 := cell_thru hb1 (cell_old _ (cell_new w _ 29 2 rfl))
  have a3 := cell_thru hb1 (cell_old _ (cell_new w _ 29 3 rfl))
  have hsz : (w.alloc (.cells #[.int .i64 id, .int .i64 f0, .int .i64 t0, .int .i64 k] 29)).heap.size = w.heap.size + 1 := by simp
  have b0 := cell_thru hb1 (cell_new (w.alloc (.cells #[.int .i64 id, .int .i64 f0, .int .i64 t0, .int .i64 k] 29)) _ 29 0 rfl)
  rw [hsz] at b0
  have b1 := cell_thru hb1 (cell_new (w.alloc (.cells #[.int .i64 id, .int .i64 f0, .int .i64 t0, .int .i64 k] 29)) _ 29 1 rfl)
  rw [hsz] at b1
  have b2 := cell_thru hb1 (cell_new (w.alloc (.cells #[.int .i64 id, .int .i64 f0, .int .i64 t0, .int .i64 k] 29)) _ 29 2 rfl)
  rw [hsz] at b2
  have b3 := cell_thru hb1 (cell_new (w.alloc (.cells #[.int .i64 id, .int .i64 f0, .int .i64 t0, .int .i64 k] 29)) _ 29 3 rfl)
  rw [hsz] at b3
  clear hb1
  go_wp2_with fail
  refine (KD.out _ (HH.out.below B1.out)).mono ?_
  rintro e w2 ⟨rfl, hP⟩
  have n1 : w.heap.size + 1 ≠ bk := by omega
  have n2 : w.heap.size ≠ bm := by omega
  have n3 : w.heap.size + 1 ≠ bm := by omega
  have p0 := kept_cell hP.2.1 a0 hne n2
  have p1 := kept_cell hP.2.1 a1 hne n2
  have p2 := kept_cell hP.2.1 a2 hne n2
  have p3 := kept_cell hP.2.1 a3 hne n2
  have q0 := kept_cell hP.2.1 b0 n1 n3
  have q1 := kept_cell hP.2.1 b1 n1 n3
  have q2 := kept_cell hP.2.1 b2 n1 n3
  have q3 := kept_cell hP.2.1 b3 n1 n3
  have HP := Lib.hid (LayPost.ahead B1.out hlt hP)
  clear hP n1 n2 n3
  go_wp2_with fail
  refine (KN.out _ HP.out.1).mono ?_
  rintro e w3 ⟨rfl, hb3⟩
  have r0 := cell_thru hb3 p0
  have r1 := cell_thru hb3 p1
  have r2 := cell_thru hb3 p2
  have r3 := cell_thru hb3 p3
  have HQ := Lib.hid (LayPost.behind HP.out hb3)
  clear hb3
  go_wp2_with fail
  refine (KL.out _ HQ.out.1).mono ?_
  rintro e w4 ⟨rfl, hR⟩
  have HR := Lib.hid hR
  clear hR
  go_wp2_with fail
  go_ret
  exact ⟨rfl, HQ.out.trans HR.out⟩

end Go.Proofs.Ytjknmnmilladlaa

/-
  Plain: who has to go (hurt), as a function of the over-list and the slots. No program here.
-/
namespace Go.Proofs.Ytjknmnmilladlaa

def hitX (s : Slot) (a f : Int) : Bool := decide (0 < f) && decide (s.frm ≤ a) && decide (a < s.to)
/-- Does one of the first n times hit a slot? -/
def hitN (all : List Step) (s : Slot) (n : Nat) : Bool := (List.range n).any fun i => hitX s (atv all i) (frv all i)
def hitS (all : List Step) (s : Slot) : Bool := hitN all s all.length
def mxS (all : List Step) (m : Int) (s : Slot) : Int := if m < s.id ∧ hitS all s = true then s.id else m
def hurtOf (all : List Step) (L : List Slot) : Int := L.foldl (mxS all) 0

theorem mxS_comm (all : List Step) (m : Int) (a b : Slot) : mxS all (mxS all m a) b = mxS all (mxS all m b) a := by
  unfold mxS
  cases hitS all a <;> cases hitS all b <;> simp
  by_cases h1 : m < a.id <;> by_cases h2 : m < b.id <;> by_cases h3 : a.id < b.id <;> by_cases h4 : b.id < a.id <;> simp [h1, h2, h3, h4] <;> omega
theorem hurtOf_perm (all : List Step) {L L' : List Slot} (h : L.Perm L') : hurtOf all L = hurtOf all L' := by
  unfold hurtOf
  generalize (0 : Int) = m
  induction h generalizing m with
  | nil => rfl
  | cons a _ ih => exact ih _
  | swap a b l => simp only [List.foldl_cons]; rw [mxS_comm]
  | trans _ _ ih1 ih2 => exact (ih1 m).trans (ih2 m)
theorem hurtOf_snoc (all : List Step) (L : List Slot) (s : Slot) : hurtOf all (L ++ [s]) = mxS all (hurtOf all L) s := by simp [hurtOf, List.foldl_append]
theorem hitN_succ (all : List Step) (s : Slot) (j : Nat) : hitN all s (j + 1) = (hitN all s j || hitX s (atv all j) (frv all j)) := by
  unfold hitN
  rw [List.range_succ, List.any_append]
  simp
theorem hitN_mono (all : List Step) (s : Slot) {j n : Nat} (h : j ≤ n) (hj : hitN all s j = true) : hitN all s n = true := by
  unfold hitN at *
  rw [List.any_eq_true] at *
  obtain ⟨i, hi, hh⟩ := hj
  rw [List.mem_range] at hi
  exact ⟨i, by rw [List.mem_range]; omega, hh⟩
theorem perm_step {dn x y L : List Slot} {s : Slot} (h : (dn ++ (x ++ s :: y)).Perm L) : ((dn ++ [s]) ++ (x ++ y)).Perm L := by
  refine List.Perm.trans ?_ h
  rw [List.append_assoc]
  refine List.Perm.append_left dn ?_
  simpa using (List.perm_middle (a := s) (l₁ := x) (l₂ := y)).symm

end Go.Proofs.Ytjknmnmilladlaa

/-
  Walk: the book's hurt.
-/
namespace Go.Proofs.Ytjknmnmilladlaa
open Go.RowKit

theorem RangeIs.left_eq {w : World} {bm r : Nat} {L left : List Slot} (h : RangeIs w bm r L left) : w.rangeLeft bm r = left.length := by
  obtain ⟨es, clock, since, seen, c0, hb, hE, hr, _, _, _, hl⟩ := h
  simp only [World.rangeLeft, hb, hr]
  have := congrArg List.length hl
  simpa using this

set_option maxHeartbeats 4000000 in
set_option maxRecDepth 100000 in
theorem hurtAny {w : World} {bk bm : Nat} {n : Int} {up fr : List Step} {L : List Slot} (h : BookIs w bk bm n up fr L) {v : Value} {all : List Step} (hv : IsSteps w v all) (hpos : 0 < all.length) :
    Calls Try.prog 45 #[.pointer (some ⟨bk, 0, none⟩), v] w fun e w' => e = .returned (.int .i64 (hurtOf all L)) ∧ Below w.heap.size w w' := by
  obtain ⟨b, off, cap, rfl, hnc, hcap, hbw, hA, hF, _⟩ := hv.cells hpos
  obtain ⟨N, hN⟩ : ∃ N, N = all.length := ⟨_, rfl⟩
  rw [← hN] at hA hF hnc hpos ⊢
  have c3 := h.c3
  have hlt := h.lt
  have HH := Lib.hid h
  have HA := Lib.hid hA
  have HF := Lib.hid hF
  have HN := Lib.hid hN
  clear h hA hF hv hN
  go_enter Try.func45, Try.ntmps45
  go_wp2_with (at_range; refine wp_range _ rfl _ rfl bm L rfl HH.out.map ?_; intro w0 hr0 hb0 hs0)
  go_frame
  go_loopw [5] (fun ws wr => ∃ dn left, RangeIs wr bm w.heap.size L left ∧ (dn ++ left).Perm L ∧ ws = .int .i64 (hurtOf all dn) ∧ Below w.heap.size w wr) (fun _ wr => wr.rangeLeft bm w.heap.size)
  case atStart => exact ⟨[], L, hr0, List.Perm.refl _, rfl, hb0⟩
  case round =>
    obtain ⟨dn, left, hR, hP, rfl, hB⟩ := hrel
    have HP := Lib.hid hP
    have HB := Lib.hid hB
    clear hP hB hb0 hr0
    go_wp2_with (at_next; refine wp_next _ rfl _ rfl bm w.heap.size L left rfl hR ?_ ?_)
    · intro hl
      subst hl
      go_wp2_with fail
      go_ret
      refine ⟨ret_int (hurtOf_perm all ?_), HB.out⟩
      simpa using HP.out
    · intro s x y w1 hl hR1 hg1 hs1 hen
      subst hl
      clear hs1
      obtain ⟨id, f0, t0, k⟩ := s
      unfold slotV at hen
      simp only at hen
      have HB1 := Lib.hid (HB.out.grown hg1 HB.out.size (fun k hk => by cases hk; exact Nat.le_refl _))
      have HR1 := Lib.hid hR1
      have HM := Lib.hid (show wr.rangeLeft bm w.heap.size = (x ++ ⟨id, f0, t0, k⟩ :: y).length from hR.left_eq)
      have hP1 := perm_step HP.out
      have HP1 := Lib.hid hP1
      generalize hm : hurtOf all dn = m at *
      have HMX := Lib.hid hm
      clear hR hR1 hg1 hP1 hm
      by_cases hid : id ≤ m
      · have hd : decide (id ≤ m) = true := by simpa using hid
        have hnx : hurtOf all (dn ++ [⟨id, f0, t0, k⟩]) = m := by
          rw [hurtOf_snoc, HMX.out]
          unfold mxS
          rw [if_neg (by simp; omega)]
        have HNX := Lib.hid hnx
        clear hid hnx
        go_wp2_with fail
        go_roundw
        case rel => exact ⟨dn ++ [⟨id, f0, t0, k⟩], x ++ y, HR1.out.alloc _, HP1.out, by rw [HNX.out], HB1.out.alloc HB1.out.size _⟩
        case measure => rw [(HR1.out.alloc _).left_eq, HM.out]; simp
      · have hd : decide (id ≤ m) = false := by simpa using hid
        have HID := Lib.hid hid
        clear hid
        go_wp2_with fail
        have K0 := Lib.hid (Below.refl (w1.heap.size + 1) (w1.alloc (.cells #[.int .i64 id, .int .i64 f0, .int .i64 t0, .int .i64 k] 29)))
        have HB2 := Lib.hid (HB1.out.alloc HB1.out.size (.cells #[.int .i64 id, .int .i64 f0, .int .i64 t0, .int .i64 k] 29))
        have HR2 := Lib.hid (HR1.out.alloc (.cells #[.int .i64 id, .int .i64 f0, .int .i64 t0, .int .i64 k] 29))
        have C1 := Lib.hid (cell_new w1 #[.int .i64 id, .int .i64 f0, .int .i64 t0, .int .i64 k] 29 1 rfl)
        have C2 := Lib.hid (cell_new w1 #[.int .i64 id, .int .i64 f0, .int .i64 t0, .int .i64 k] 29 2 rfl)
        have hsz : (w1.alloc (.cells #[.int .i64 id, .int .i64 f0, .int .i64 t0, .int .i64 k] 29)).heap.size = w1.heap.size + 1 := by simp
        generalize w1.alloc (.cells #[.int .i64 id, .int .i64 f0, .int .i64 t0, .int .i64 k] 29) = w2 at *
        have hb1 : bm < w1.heap.size := HR1.out.mapIs.lt
        have hr1 : w.heap.size < w1.heap.size := HR1.out.lt
        generalize hH1 : w1.heap.size = H1 at *
        have HH1 := Lib.hid hH1
        clear hH1 hs0
        go_loopw [5, 25] (fun ws i w3 => ∃ j : Nat, j ≤ N ∧ i = .int .i64 j ∧ ws = .int .i64 m ∧ hitN all ⟨id, f0, t0, k⟩ j = false ∧ Below (H1 + 1) w2 w3) (fun _ i _ => N - (intOf i).toNat)
        case atStart => exact ⟨0, Nat.zero_le _, rfl, rfl, rfl, K0.out⟩
        case round =>
          obtain ⟨j, hj, rfl, rfl, hno, hB3⟩ := hrel
          have HNO := Lib.hid hno
          have HB3 := Lib.hid hB3
          have hl3 : w.heap.size ≤ H1 + 1 := by have := HB2.out.size; omega
          have HB4 := Lib.hid (HB2.out.trans (hB3.mono hl3))
          have HR3 := Lib.hid (HR2.out.below hB3 (by omega) (by omega))
          have c1 : wr.cell? ⟨H1, 1, none⟩ = some (.int .i64 f0) := (hB3.cell (p := ⟨H1, 1, none⟩) (Nat.lt_succ_self _)).trans C1.out
          have c2 : wr.cell? ⟨H1, 2, none⟩ = some (.int .i64 t0) := (hB3.cell (p := ⟨H1, 2, none⟩) (Nat.lt_succ_self _)).trans C2.out
          by_cases hjn : j < N
          · have hAj : wr.cell? ⟨b, off + j * 2, none⟩ = some (.int .i64 (atv all j)) := (HB4.out.cell (p := ⟨b, off + j * 2, none⟩) hbw).trans (HA.out j hjn)
            have hFj : wr.cell? ⟨b, off + j * 2 + 1, none⟩ = some (.int .i64 (frv all j)) := (HB4.out.cell (p := ⟨b, off + j * 2 + 1, none⟩) hbw).trans (HF.out j hjn)
            have hjj : (j : Int) < N := by omega
            have hH1ne : H1 ≠ wr.heap.size := by have := World.block_lt_of_cell? wr _ c1; simp at this; omega
            have hN63 : N ≤ 9223372036854775807 := by unfold maxLen at hcap; omega
            have H3SZ := Lib.hid (show H1 + 1 ≤ wr.heap.size by have := hB3.size; omega)
            have hsucc := hitN_succ all ⟨id, f0, t0, k⟩ j
            have hlN : hitN all ⟨id, f0, t0, k⟩ (j + 1) = true → hitS all ⟨id, f0, t0, k⟩ = true := fun hh => hitN_mono all _ (by have := HN.out; omega) hh
            have HLN := Lib.hid hlN
            have h3lt : H1 < wr.heap.size := World.block_lt_of_cell? wr _ c1
            rw [hno, Bool.false_or] at hsucc
            clear hlN hno hB3 hl3 hb1 hr1 hsz
            generalize atv all j = aj at *
            generalize frv all j = fj at *
            cases d1 : decide (0 < fj)
            · have hx : hitX ⟨id, f0, t0, k⟩ aj fj = false := by simp [hitX, d1]
              rw [hx] at hsucc
              have HSU := Lib.hid hsucc
              clear hx hsucc
              go_wp2_with fail
              go_roundw
              case rel => exact ⟨j + 1, by omega, by go_num, rfl, HSU.out, HB3.out.alloc H3SZ.out _⟩
              case measure => simp [intOf]; omega
            cases d2 : decide (f0 ≤ aj)
            · have hx : hitX ⟨id, f0, t0, k⟩ aj fj = false := by simp [hitX, d2]
              rw [hx] at hsucc
              have HSU := Lib.hid hsucc
              clear hx hsucc
              go_wp2_with fail
              go_roundw
              case rel => exact ⟨j + 1, by omega, by go_num, rfl, HSU.out, HB3.out.alloc H3SZ.out _⟩
              case measure => simp [intOf]; omega
            cases d3 : decide (aj < t0)
            · have hx : hitX ⟨id, f0, t0, k⟩ aj fj = false := by simp [hitX, d3]
              rw [hx] at hsucc
              have HSU := Lib.hid hsucc
              clear hx hsucc
              go_wp2_with fail
              go_roundw
              case rel => exact ⟨j + 1, by omega, by go_num, rfl, HSU.out, HB3.out.alloc H3SZ.out _⟩
              case measure => simp [intOf]; omega
            · have hx : hitX ⟨id, f0, t0, k⟩ aj fj = true := by simp [hitX, d1, d2, d3]
              rw [hx] at hsucc
              have hnx : hurtOf all (dn ++ [⟨id, f0, t0, k⟩]) = id := by
                rw [hurtOf_snoc, HMX.out]
                unfold mxS
                rw [if_pos ⟨HID.out, HLN.out hsucc⟩]
              have HNX := Lib.hid hnx
              have HR4 := Lib.hid (HR3.out.alloc (.cells #[.int .i64 aj, .int .i64 fj] 38))
              have HB5 := Lib.hid (HB4.out.alloc HB4.out.size (.cells #[.int .i64 aj, .int .i64 fj] 38))
              clear hx hsucc hnx
              go_wp2_with fail
              go_roundw
              case rel => exact ⟨dn ++ [⟨id, f0, t0, k⟩], x ++ y, HR4.out, HP1.out, by rw [HNX.out], HB5.out⟩
              case measure => rw [HR4.out.left_eq, HM.out]; simp
          · obtain rfl : j = N := by omega
            have hd2 : decide ((j : Int) < j) = false := by simp
            have hnx : hurtOf all (dn ++ [⟨id, f0, t0, k⟩]) = m := by
              rw [hurtOf_snoc, HMX.out]
              unfold mxS
              rw [if_neg]
              rintro ⟨_, hh⟩
              unfold hitS at hh
              rw [← HN.out, hno] at hh
              cases hh
            have HNX := Lib.hid hnx
            clear hnx hno hB3
            go_wp2_with fail
            go_roundw
            case rel => exact ⟨dn ++ [⟨id, f0, t0, k⟩], x ++ y, HR3.out, HP1.out, by rw [HNX.out], HB4.out⟩
            case measure => rw [HR3.out.left_eq, HM.out]; simp

end Go.Proofs.Ytjknmnmilladlaa

/-
  DERIVED: THE SHELF's CONTRACTS AT THIS DUMP, IN PLAIN WORDS (tools/lay-plain.mjs out of 'TryShelfB.lean', which tools/lay-shelf.mjs wrote): THE SAME DECLARATIONS UNDER THE SAME NAMES: 'import', 'namespace', 'open', 'def', 'theorem' AND NOTHING ELSE: no command of the shelf's: FOR A HAND-IN. Each laying: the table of numbers ('.._ren') and one theorem, a field a fact of the dump's own or the kernel's comparison; each contract: ONE APPLICATION.
-/
namespace Go.Proofs
open Go.Shelf
def Try.laysNm220_ren : Go.Shelf.Ren := ⟨fun | 20 => 64 | n => n, fun | 22 => 42 | 3 => 3 | 4 => 4 | 0 => 0 | n => n, fun | n => n⟩
theorem Try.laysNm220 : Go.Proofs.Lays2.n20 Try.prog Try.laysNm220_ren := {
  mixed := by kernel_rfl
  f20 := Try.func64.trans (congrArg some (by kernel_rfl))
  t0 := Try.underlying0
  a0 := Try.isAgg0
  z0 := Try.sizeOf0
  v0 := Try.zeroValue0
  t3 := Try.underlying3
  a3 := Try.isAgg3
  z3 := Try.sizeOf3
  v3 := Try.zeroValue3
  t4 := Try.underlying4
  a4 := Try.isAgg4
  z4 := Try.sizeOf4
  v4 := Try.zeroValue4
  t22 := Try.underlying42
  a22 := Try.isAgg42
  z22 := Try.sizeOf42
  v22 := Try.zeroValue42
  i3 := by kernel_rfl }
def Try.lays189_ren : Go.Shelf.Ren := ⟨fun | 189 => 48 | 125 => 62 | 257 => 65 | 128 => 80 | 129 => 81 | 294 => 84 | 295 => 85 | 296 => 86 | 297 => 87 | 298 => 88 | 299 => 89 | 216 => 90 | 300 => 91 | 301 => 92 | 328 => 103 | 329 => 98 | 330 => 99 | 331 => 104 | 332 => 105 | 215 => 106 | 343 => 110 | n => n, fun | 28 => 42 | 3 => 3 | 46 => 101 | 0 => 0 | 51 => 116 | 53 => 118 | 4 => 4 | 183 => 110 | 182 => 109 | 131 => 96 | 5 => 5 | 9 => 9 | 218 => 127 | 222 => 131 | 228 => 136 | 229 => 137 | n => n, fun | n => n⟩
theorem Try.lays189 : Go.Proofs.Lays.n189 Try.prog Try.lays189_ren := {
  mixed := by kernel_rfl
  f125 := Try.func62.trans (congrArg some (by kernel_rfl))
  f128 := Try.func80.trans (congrArg some (by kernel_rfl))
  f129 := Try.func81.trans (congrArg some (by kernel_rfl))
  f189 := Try.func48.trans (congrArg some (by kernel_rfl))
  f215 := Try.func106.trans (congrArg some (by kernel_rfl))
  f216 := Try.func90.trans (congrArg some (by kernel_rfl))
  f257 := Try.func65.trans (congrArg some (by kernel_rfl))
  f294 := Try.func84.trans (congrArg some (by kernel_rfl))
  f295 := Try.func85.trans (congrArg some (by kernel_rfl))
  f296 := Try.func86.trans (congrArg some (by kernel_rfl))
  f297 := Try.func87.trans (congrArg some (by kernel_rfl))
  f298 := Try.func88.trans (congrArg some (by kernel_rfl))
  f299 := Try.func89.trans (congrArg some (by kernel_rfl))
  f300 := Try.func91.trans (congrArg some (by kernel_rfl))
  f301 := Try.func92.trans (congrArg some (by kernel_rfl))
  f328 := Try.func103.trans (congrArg some (by kernel_rfl))
  f329 := Try.func98.trans (congrArg some (by kernel_rfl))
  f330 := Try.func99.trans (congrArg some (by kernel_rfl))
  f331 := Try.func104.trans (congrArg some (by kernel_rfl))
  f332 := Try.func105.trans (congrArg some (by kernel_rfl))
  f343 := Try.func110.trans (congrArg some (by kernel_rfl))
  t0 := Try.underlying0
  a0 := Try.isAgg0
  z0 := Try.sizeOf0
  v0 := Try.zeroValue0
  t3 := Try.underlying3
  a3 := Try.isAgg3
  z3 := Try.sizeOf3
  v3 := Try.zeroValue3
  t4 := Try.underlying4
  a4 := Try.isAgg4
  z4 := Try.sizeOf4
  v4 := Try.zeroValue4
  t5 := Try.underlying5
  a5 := Try.isAgg5
  z5 := Try.sizeOf5
  v5 := Try.zeroValue5
  t9 := Try.underlying9
  a9 := Try.isAgg9
  z9 := Try.sizeOf9
  v9 := Try.zeroValue9
  t28 := Try.underlying42
  a28 := Try.isAgg42
  z28 := Try.sizeOf42
  v28 := Try.zeroValue42
  t46 := Try.underlying101
  a46 := Try.isAgg101
  z46 := Try.sizeOf101
  v46 := Try.zeroValue101
  t51 := Try.underlying116
  a51 := Try.isAgg116
  z51 := Try.sizeOf116
  v51 := Try.zeroValue116
  t53 := Try.underlying118
  a53 := Try.isAgg118
  z53 := Try.sizeOf118
  v53 := Try.zeroValue118
  t131 := Try.underlying96
  a131 := Try.isAgg96
  z131 := Try.sizeOf96
  v131 := Try.zeroValue96
  t182 := Try.underlying109
  a182 := Try.isAgg109
  z182 := Try.sizeOf109
  v182 := Try.zeroValue109
  t183 := Try.underlying110
  a183 := Try.isAgg110
  z183 := Try.sizeOf110
  v183 := Try.zeroValue110
  t218 := Try.underlying127
  a218 := Try.isAgg127
  z218 := Try.sizeOf127
  v218 := Try.zeroValue127
  t222 := Try.underlying131
  a222 := Try.isAgg131
  z222 := Try.sizeOf131
  v222 := Try.zeroValue131
  t228 := Try.underlying136
  a228 := Try.isAgg136
  z228 := Try.sizeOf136
  v228 := Try.zeroValue136
  t229 := Try.underlying137
  a229 := Try.isAgg137
  z229 := Try.sizeOf137
  v229 := Try.zeroValue137 }
end Go.Proofs

/-
  The library's Sort and Compact at numbers, on slices of the call's own.
-/
namespace Go.Proofs.Ytjknmnmilladlaa
open Go.RowKit Go.Sort Go.Proofs

/-- slices.Sort. -/
theorem sortInts {w : World} {B : Nat} {v : Value} {l : List Int} (h : OwnInts w B v l) (hB : B ≤ w.heap.size) (hlen : l.length < 4611686018427387904) :
    Calls Try.prog 48 #[v] w fun e w' => e = .returned (.tuple #[]) ∧ OwnInts w' B v (l.mergeSort fun x y => decide (x ≤ y)) ∧ Below B w w' := by
  have hl : (l.mergeSort fun x y => decide (x ≤ y)).length = l.length := List.length_mergeSort l
  rcases h.2 with ⟨rfl, h0⟩ | ⟨g, cap, cur, rfl, hg, hb, h1, h2, h3, ht⟩
  · have hle : l = [] := List.length_eq_zero_iff.1 h0
    subst hle
    refine (Any.slices_Sort_int_none Try.lays189 none 0 w).mono ?_
    rintro e w' ⟨he, rfl⟩
    exact ⟨he, by rw [List.mergeSort_nil]; exact h, Below.refl _ _⟩
  · have ht' : cur.toList.take l.length = l.map (Value.int .i64) := by simpa [flatI] using ht
    have hlt : g < w.heap.size := (Array.getElem?_eq_some_iff.1 hb).1
    refine (Any.slices_Sort_int Try.lays189 g 0 cap l w (holds_of_blockI hb ht') hlt hlen).mono ?_
    rintro e w' ⟨he, n, os, rfl⟩
    refine ⟨he, ?_, ?_⟩
    · have := ownsRow_sortedI (n := n) (os := os) hl hg hb h1 h2 h3
      unfold OwnInts
      rw [hl]
      exact this
    · exact (Below.refl B w).grown (grownBy_sortedI _) hB (fun k hk => by cases hk; exact hg)

theorem mem_compactUpTo {d : Array Int} {m : Nat} {x : Int} : x ∈ Lib.compactUpTo d m ↔ ∃ j, j < m ∧ d[j]! = x := by
  induction m generalizing x with
  | zero => simp [Lib.compactUpTo]
  | succ m ih =>
    rw [Lib.compactUpTo_succ, List.mem_append, ih]
    constructor
    · rintro (⟨j, hj, rfl⟩ | hx)
      · exact ⟨j, by omega, rfl⟩
      · split at hx
        · simp at hx
          exact ⟨m, by omega, hx.symm⟩
        · simp at hx
    · rintro ⟨j, hj, rfl⟩
      by_cases hjm : j < m
      · exact .inl ⟨j, hjm, rfl⟩
      · obtain rfl : j = m := by omega
        by_cases hk : Lib.keeps d j = true
        · right; rw [if_pos hk]; simp
        · left
          by_cases h0 : j = 0
          · subst h0; exact absurd (Lib.keeps_lt_one d 0 (by omega)) hk
          · have he : d[j]! = d[j - 1]! := by
              by_cases he : d[j]! = d[j - 1]!
              · exact he
              · exact absurd (Lib.keeps_pos he) hk
            exact ⟨j - 1, by omega, he.symm⟩
theorem mem_compact {l : List Int} {x : Int} : x ∈ Lib.compact l ↔ x ∈ l := by
  unfold Lib.compact
  rw [mem_compactUpTo]
  constructor
  · rintro ⟨j, hj, rfl⟩
    simp [hj]
  · intro hx
    obtain ⟨j, hj, rfl⟩ := List.getElem_of_mem hx
    exact ⟨j, hj, by simp [hj]⟩

/-- slices.Compact: the same numbers. -/
theorem compactInts {w : World} {B : Nat} {v : Value} {l : List Int} (h : OwnInts w B v l) (hB : B ≤ w.heap.size) :
    Calls Try.prog 64 #[v] w fun e w' => (∃ u, e = .returned u ∧ IsInts w' u (Lib.compact l)) ∧ Below B w w' := by
  rcases h.2 with ⟨rfl, h0⟩ | ⟨g, cap, cur, rfl, hg, hb, h1, h2, h3, ht⟩
  · have hle : l = [] := List.length_eq_zero_iff.1 h0
    subst hle
    refine (Any.slices_Compact_int_empty Try.laysNm220 none 0 w).mono ?_
    rintro e w' ⟨he, rfl⟩
    refine ⟨⟨_, he, ?_⟩, Below.refl _ _⟩
    exact h.is
  · have ht' : cur.toList.take l.length = l.map (Value.int .i64) := by simpa [flatI] using ht
    have hlt : g < w.heap.size := (Array.getElem?_eq_some_iff.1 hb).1
    have hH := holds_of_blockI hb ht'
    refine (Any.slices_Compact_int Try.laysNm220 g 0 cap l w hH (by unfold maxLen at h2; omega) h1).mono ?_
    rintro e w' ⟨he, n, rfl⟩
    have hle := Lib.compact_length_le l
    have hHa : Holds (Value.int .i64) (Sort.ahead w n) g 0 l.toArray := hH
    have hP := holds_putRow (Value.int .i64) (Sort.ahead w n) g 0 l.toArray (Lib.compact l ++ List.replicate (l.length - (Lib.compact l).length) 0).toArray hHa (by simp; omega)
    refine ⟨⟨_, he, ?_⟩, ?_⟩
    · refine ⟨length_flatI _, some ⟨g, 0, none⟩, cap, rfl, by omega, h2, fun _ => ⟨g, 0, rfl, fun j u hj => ?_⟩⟩
      have hjl : j < (Lib.compact l).length := by
        have := (List.getElem?_eq_some_iff.1 hj).1
        rw [length_flatI] at this
        omega
      have := (hP j (by simp; omega)).1
      rw [this]
      unfold flatI at hj
      rw [List.getElem?_map, List.getElem?_eq_getElem hjl] at hj
      simp at hj
      rw [← hj]
      have hj2 : j < (Lib.compact l ++ List.replicate (l.length - (Lib.compact l).length) 0).length := by simp; omega
      simp only [List.getElem!_toArray, List.getElem!_eq_getElem?_getD, List.getElem?_append_left hjl, List.getElem?_eq_getElem hjl, Option.getD_some]
    · refine (Below.refl B w).grown (row := some g) ⟨rfl, rfl, rfl, by simp, fun k hk hne => ?_⟩ hB (fun k hk => by cases hk; exact hg)
      have : g ≠ k := fun e => hne (by rw [e])
      simp [putRow, mapBlock, Sort.ahead, Array.getElem?_modify, this]

end Go.Proofs.Ytjknmnmilladlaa

/-
  Plain: the times at which anything changes, and how much is reserved at a time. No program here.
-/
namespace Go.Proofs.Ytjknmnmilladlaa

def slotT (L : List Slot) : List Int := L.flatMap fun s => [s.frm, s.to]
def stepT (up : List Step) : List Int := up.map (·.at_)
def covS (t : Int) (s : Slot) : Int := if s.frm ≤ t ∧ t < s.to then s.nodes else 0
def loadOf (L : List Slot) (t : Int) : Int := L.foldl (fun n s => n + covS t s) 0

theorem foldl_cov (L : List Slot) (t a b : Int) : L.foldl (fun n s => n + covS t s) (a + b) = a + L.foldl (fun n s => n + covS t s) b := by
  induction L generalizing b with
  | nil => rfl
  | cons s L ih => simp only [List.foldl_cons]; rw [Int.add_assoc, ih]
theorem loadOf_cons (s : Slot) (L : List Slot) (t : Int) : loadOf (s :: L) t = covS t s + loadOf L t := by
  unfold loadOf
  rw [List.foldl_cons, show (0 : Int) + covS t s = covS t s + 0 by omega, foldl_cov]
theorem loadOf_snoc (L : List Slot) (s : Slot) (t : Int) : loadOf (L ++ [s]) t = loadOf L t + covS t s := by simp [loadOf, List.foldl_append]
theorem loadOf_perm {L L' : List Slot} (h : L.Perm L') (t : Int) : loadOf L t = loadOf L' t := by
  induction h with
  | nil => rfl
  | cons a _ ih => rw [loadOf_cons, loadOf_cons, ih]
  | swap a b l => rw [loadOf_cons, loadOf_cons, loadOf_cons, loadOf_cons]; omega
  | trans _ _ ih1 ih2 => exact ih1.trans ih2
theorem loadOf_append (L L' : List Slot) (t : Int) : loadOf (L ++ L') t = loadOf L t + loadOf L' t := by
  induction L with
  | nil => simp [loadOf]
  | cons a L ih => rw [List.cons_append, loadOf_cons, loadOf_cons, ih]; omega
theorem loadOf_bound {L : List Slot} (h : ∀ s ∈ L, 1 ≤ s.nodes ∧ s.nodes ≤ 10000) (t : Int) : 0 ≤ loadOf L t ∧ loadOf L t ≤ 10000 * L.length := by
  induction L with
  | nil => simp [loadOf]
  | cons a L ih =>
    rw [loadOf_cons]
    have h1 := ih fun s hs => h s (List.mem_cons_of_mem _ hs)
    have h2 := h a List.mem_cons_self
    have h3 : 0 ≤ covS t a ∧ covS t a ≤ 10000 := by unfold covS; split <;> omega
    simp only [List.length_cons]
    omega
theorem slotT_snoc (L : List Slot) (s : Slot) : slotT (L ++ [s]) = slotT L ++ [s.frm, s.to] := by simp [slotT]
theorem length_slotT (L : List Slot) : (slotT L).length = L.length * 2 := by
  induction L with
  | nil => rfl
  | cons a L ih => simp only [slotT, List.flatMap_cons, List.length_append] at *; rw [ih]; simp; omega
theorem mem_slotT_perm {L L' : List Slot} (h : L.Perm L') {t : Int} : t ∈ slotT L ↔ t ∈ slotT L' := by
  unfold slotT
  simp only [List.mem_flatMap]
  exact ⟨fun ⟨s, hs, ht⟩ => ⟨s, h.mem_iff.1 hs, ht⟩, fun ⟨s, hs, ht⟩ => ⟨s, h.mem_iff.2 hs, ht⟩⟩
theorem stepT_take (up : List Step) (k : Nat) (h : k < up.length) : (stepT up).take (k + 1) = (stepT up).take k ++ [atv up k] := by
  rw [List.take_succ_eq_append_getElem (by simpa [stepT] using h)]
  simp [stepT, atv, h]

end Go.Proofs.Ytjknmnmilladlaa

/-
  Walk: the book's over.
-/
namespace Go.Proofs.Ytjknmnmilladlaa
open Go.RowKit

theorem OwnInts.alloc {w : World} {B : Nat} {v : Value} {l : List Int} (h : OwnInts w B v l) (o : Obj) : OwnInts (w.alloc o) B v l := owns_below h ((Below.refl _ _).alloc (Nat.le_refl _) o)
theorem own_int1 {w : World} {B m : Nat} {v : Value} {l : List Int} {t : Int} (h : w.ownsRow B 3 1 v m (flatI l ++ [.int .i64 t])) : OwnInts w B v (l ++ [t]) := by
  have hm : m = l.length + 1 := by have := h.1; simp [flatI] at this; omega
  subst hm
  unfold OwnInts
  rw [flatI_append, List.length_append]
  exact h
theorem own_int2 {w : World} {B m : Nat} {v : Value} {l : List Int} {t u : Int} (h : w.ownsRow B 3 1 v m (flatI l ++ [.int .i64 t, .int .i64 u])) : OwnInts w B v (l ++ [t, u]) := by
  have hm : m = l.length + 2 := by have := h.1; simp [flatI] at this; omega
  subst hm
  unfold OwnInts
  rw [flatI_append, List.length_append]
  exact h

theorem own_step1 {w : World} {B m : Nat} {v : Value} {l : List Step} {t f : Int} (h : w.ownsRow B 38 2 v m (flatS l ++ [.int .i64 t, .int .i64 f])) : OwnSteps w B v (l ++ [⟨t, f⟩]) := by
  have hm : m = l.length + 1 := by have := h.1; simp [length_flatS] at this; omega
  subst hm
  unfold OwnSteps
  rw [flatS_append, List.length_append]
  exact h
theorem small_wrap {a : Int} (h1 : -4611686018427387904 ≤ a) (h2 : a ≤ 4611686018427387904) : IntKind.i64.wrap a = a := by
  unfold IntKind.wrap
  simp [IntKind.signed, IntKind.bits]
  omega
theorem own_ne {w : World} {B e k m : Nat} {v : Value} {xs : List Value} (h : w.ownsRow B e k v m xs) {bm R : Nat} {L left : List Slot} (hR : RangeIs w bm R L left) : v.ownBlock ≠ some R ∧ v.ownBlock ≠ some bm := by
  obtain ⟨es, clock, since, seen, c0, hb, hE, hr, _⟩ := hR
  rcases h.2 with ⟨rfl, _⟩ | ⟨g, cap, cur, rfl, hg, hh, _⟩
  · exact ⟨by simp [Value.ownBlock], by simp [Value.ownBlock]⟩
  · constructor
    · intro he
      simp [Value.ownBlock] at he
      subst he
      rw [hh] at hr
      cases hr
    · intro he
      simp [Value.ownBlock] at he
      subst he
      rw [hh] at hb
      cases hb

set_option maxHeartbeats 8000000 in
set_option maxRecDepth 100000 in
theorem overAny {w : World} {bk bm : Nat} {n : Int} {up fr : List Step} {L : List Slot} (h : BookIs w bk bm n up fr L) (hpos : 0 < up.length) (hup : up.length ≤ 20000) (hL : L.length ≤ 9000) (hk : ∀ s ∈ L, 1 ≤ s.nodes ∧ s.nodes ≤ 10000) (hat : ∀ t, 0 ≤ atOf up t ∧ atOf up t ≤ 10000) :
    Calls Try.prog 46 #[.pointer (some ⟨bk, 0, none⟩)] w fun e w' => (∃ (v : Value) (ts : List Int), e = .returned v ∧ (∀ t, t ∈ ts ↔ t ∈ stepT up ++ slotT L) ∧ OwnSteps w' w.heap.size v (ts.map fun t => (⟨t, loadOf L t - atOf up t⟩ : Step))) ∧ Below w.heap.size w w' := by
  obtain ⟨vu, u1, u2, u3⟩ := h.c1
  have hvat := u2
  obtain ⟨b, off, cap, rfl, hnc, hcap, hbw, hA, hF, _⟩ := u2.cells hpos
  have c3 := h.c3
  have hlt := h.lt
  obtain ⟨N, hN⟩ : ∃ N, N = up.length := ⟨_, rfl⟩
  rw [← hN] at hA hF hnc hpos u1 hvat hup
  have HH := Lib.hid h
  have HA := Lib.hid hA
  have HF := Lib.hid hF
  have HN := Lib.hid hN
  have HVU := Lib.hid hvat
  have HK := Lib.hid hk
  have HAT := Lib.hid hat
  clear h hA hF hN hvat hk hat u2 u3
  obtain ⟨i0, hi, hz0, hz1, hz2⟩ := info_parts Try.info3
  obtain ⟨j0, hj38, hy0, hy1, hy2⟩ := info_parts Try.info38
  go_enter Try.func46, Try.ntmps46
  go_wp2_with fail
  go_loopw [3, 19] (fun o i wr => ∃ k : Nat, k ≤ N ∧ i = .int .i64 k ∧ Below w.heap.size w wr ∧ OwnInts wr w.heap.size o ((stepT up).take k)) (fun _ i _ => N - (intOf i).toNat)
  case atStart => exact ⟨0, by omega, rfl, Below.refl _ _, World.ownsRow_nil _ _ _ _⟩
  case round =>
    obtain ⟨k, hk, rfl, hb, hown⟩ := hrel
    have HOWN := Lib.hid hown
    have HB := Lib.hid hb
    have hlt2 : w.heap.size ≤ wr.heap.size := hb.size
    by_cases hkn : k < N
    · have hAk : wr.cell? ⟨b, off + k * 2, none⟩ = some (.int .i64 (atv up k)) := (hb.cell (p := ⟨b, off + k * 2, none⟩) hbw).trans (HA.out k hkn)
      have hFk : wr.cell? ⟨b, off + k * 2 + 1, none⟩ = some (.int .i64 (frv up k)) := (hb.cell (p := ⟨b, off + k * 2 + 1, none⟩) hbw).trans (HF.out k hkn)
      have HTK := Lib.hid (stepT_take up k (by rw [← HN.out]; exact hkn))
      have hlk : ((stepT up).take k).length = k := by simp [stepT, ← HN.out]; omega
      have hkk : (k : Int) < N := by omega
      clear hb hown
      generalize atv up k = ak at *
      generalize frv up k = fk at *
      generalize hlst : (stepT up).take k = lst at *
      have HLST := Lib.hid hlst
      have HOW := HOWN.out
      unfold OwnInts at HOW
      have HOW := Lib.hid HOW
      clear hlst
      go_wp2_with (at_builtin; refine wpList_append_own _ rfl (.tmp 23) (.tmp 26) 42 rfl w.heap.size 3 i0 _ 1 8 Try.underlying42 hi hz0 hz1 hz2 rfl (by decide) _ _ _ rfl (by exact (HOW.out.alloc _).alloc _) ⟨wr.heap.size + 1, 0, none⟩ 1 1 [.int .i64 ak] rfl rfl (news_at _ _ (by simp) #[.int .i64 ak] 3) (by simp [Value.oneCell']) (by unfold maxLen; omega) (by omega) (by simp; omega) ?_)
      intro v' w3 hown3 hgrow hnil
      have HO3 := Lib.hid hown3
      have HG := Lib.hid hgrow
      clear hown3 hnil hgrow
      go_wp2_with fail
      go_roundw
      case rel =>
        have hB3 : Below w.heap.size w w3 := ((HB.out.alloc hlt2 _).alloc (by simp; omega) _).grown HG.out (by simp; omega) (fun g hg => ((World.ownsRow.lt HOW.out) g hg).1)
        exact ⟨k + 1, by omega, by go_num, hB3, by rw [HTK.out]; exact own_int1 HO3.out⟩
      case measure => simp [intOf]; omega
    · obtain rfl : k = N := by omega
      have hd2 : decide ((k : Int) < k) = false := by simp
      have hall : (stepT up).take k = stepT up := by rw [List.take_of_length_le]; simp [stepT, ← HN.out]
      rw [hall] at hown
      have HOWN := Lib.hid hown
      clear hown hall hb
      have hltb : bm < wr.heap.size := Nat.lt_of_lt_of_le HH.out.map.lt hlt2
      have HHr := Lib.hid (HH.out.below HB.out)
      have c3r := HHr.out.c3
      obtain ⟨R, hR⟩ : ∃ R, R = wr.heap.size := ⟨_, rfl⟩
      have hlR : w.heap.size ≤ R := by rw [hR]; exact hlt2
      have HR := Lib.hid hR
      clear hR
      go_wp2_with (at_range; refine wp_range _ rfl _ rfl bm L rfl HHr.out.map ?_; intro w0 hr0 hb0 hs0)
      go_frame
      rw [← HR.out] at hr0
      rw [← HR.out]
      have HB0 := Lib.hid (HB.out.trans (hb0.mono HB.out.size))
      have HO0 := Lib.hid (owns_below HOWN.out hb0 : OwnInts w0 w.heap.size _ _)
      have HR0 := Lib.hid hr0
      clear hb0 hs0 hr0
      have hlup : (stepT up).length = k := by simp [stepT, ← HN.out]
      have HLUP := Lib.hid hlup
      clear hlup
      go_loopw [3] (fun o wr => ∃ dn left, RangeIs wr bm R L left ∧ (dn ++ left).Perm L ∧ Below w.heap.size w wr ∧ OwnInts wr w.heap.size o (stepT up ++ slotT dn)) (fun _ wr => wr.rangeLeft bm R)
      case atStart => exact ⟨[], L, HR0.out, List.Perm.refl _, HB0.out, by rw [show slotT [] = [] from rfl, List.append_nil]; exact HO0.out⟩
      case round =>
        obtain ⟨dn, left, hRg, hP, hb, hown⟩ := hrel
        have HP := Lib.hid hP
        have HBb := Lib.hid hb
        have HOw := Lib.hid hown
        have hdl := hP.length_eq
        rw [List.length_append] at hdl
        have HDL := Lib.hid hdl
        clear hP hown hb hdl HO0 HB0 HR0
        go_wp2_with (at_next; refine wp_next _ rfl _ rfl bm R L left rfl hRg ?_ ?_)
        · intro hl
          subst hl
          have hPL : dn.Perm L := by simpa using HP.out
          have HPL := Lib.hid hPL
          have hl40 : (stepT up ++ slotT dn).length < 4611686018427387904 := by
            rw [List.length_append, length_slotT, HLUP.out]
            have := HDL.out
            simp at this
            omega
          have HS := Lib.hid (sortInts HOw.out HBb.out.size hl40)
          have hmem : ∀ t, t ∈ Lib.compact ((stepT up ++ slotT dn).mergeSort fun x y => decide (x ≤ y)) ↔ t ∈ stepT up ++ slotT L := by
            intro t
            rw [mem_compact, List.mem_mergeSort, List.mem_append, List.mem_append, mem_slotT_perm HPL.out]
          have hll : (Lib.compact ((stepT up ++ slotT dn).mergeSort fun x y => decide (x ≤ y))).length ≤ 40000 := by
            have h1 := Lib.compact_length_le ((stepT up ++ slotT dn).mergeSort fun x y => decide (x ≤ y))
            rw [List.length_mergeSort, List.length_append, length_slotT, HLUP.out] at h1
            have := HDL.out
            simp at this
            omega
          have hpts : 0 < (Lib.compact ((stepT up ++ slotT dn).mergeSort fun x y => decide (x ≤ y))).length := by
            have : atv up 0 ∈ Lib.compact ((stepT up ++ slotT dn).mergeSort fun x y => decide (x ≤ y)) := by
              rw [hmem, List.mem_append]
              left
              unfold stepT
              rw [List.mem_map]
              have h0 : 0 < up.length := by rw [← HN.out]; exact hpos
              exact ⟨up[0], List.getElem_mem h0, by rw [stepAt up 0 h0]⟩
            exact List.length_pos_of_mem this
          have HC0 := fun (w2 : World) (h2 : OwnInts w2 w.heap.size u3 ((stepT up ++ slotT dn).mergeSort fun x y => decide (x ≤ y))) (hs2 : w.heap.size ≤ w2.heap.size) => compactInts h2 hs2
          generalize hts : Lib.compact ((stepT up ++ slotT dn).mergeSort fun x y => decide (x ≤ y)) = ts at *
          have HC := Lib.hid HC0
          have HMEM := Lib.hid hmem
          clear hPL hl40 hmem HC0 hts hRg
          go_wp2_with fail
          refine (HS.out).mono ?_
          rintro e w2 ⟨rfl, ho2, hb2⟩
          have HO2 := Lib.hid ho2
          have HB2 := Lib.hid (HBb.out.trans hb2)
          clear ho2 hb2
          go_wp2_with fail
          refine (HC.out w2 HO2.out HB2.out.size).mono ?_
          rintro e w3 ⟨⟨vt, rfl, hi3⟩, hb3⟩
          obtain ⟨b2, off2, cap2, rfl, hnc2, hcap2, hbw2, hT, _⟩ := hi3.cells hpts
          have HB3 := Lib.hid (HB2.out.trans hb3)
          have HT := Lib.hid hT
          have hl3 : w.heap.size ≤ w3.heap.size := HB3.out.size
          obtain ⟨M, hM⟩ : ∃ M, M = ts.length := ⟨_, rfl⟩
          rw [← hM] at hnc2 hpts hll
          have HT2 : ∀ j, j < M → w3.cell? ⟨b2, off2 + j, none⟩ = some (.int .i64 (inv ts j)) := by rw [hM]; exact hT
          have HT := Lib.hid HT2
          have hML := Lib.hid hM
          rw [← hM]
          clear hi3 hb3 hT HT2 hM HS HC HO2 HB2
          go_wp2_with fail
          go_loopw [8, 50] (fun o i wr => ∃ j : Nat, j ≤ M ∧ i = .int .i64 j ∧ Below w3.heap.size w3 wr ∧ OwnSteps wr w3.heap.size o ((ts.map fun t => (⟨t, loadOf L t - atOf up t⟩ : Step)).take j)) (fun _ i _ => M - (intOf i).toNat)
          case atStart => exact ⟨0, by omega, rfl, Below.refl _ _, World.ownsRow_nil _ _ _ _⟩
          case round =>
            obtain ⟨j, hj, rfl, hb4, ho4⟩ := hrel
            have HO4 := Lib.hid ho4
            have HB4 := Lib.hid hb4
            by_cases hjM : j < M
            · have hl4 : w3.heap.size ≤ wr.heap.size := hb4.size
              have hcj : wr.cell? ⟨b2, off2 + j, none⟩ = some (.int .i64 (inv ts j)) := (hb4.cell (p := ⟨b2, off2 + j, none⟩) hbw2).trans (HT.out j hjM)
              have hjj : (j : Int) < M := by omega
              have hsn : ((ts.map fun t => (⟨t, loadOf L t - atOf up t⟩ : Step)).take (j + 1)) = ((ts.map fun t => (⟨t, loadOf L t - atOf up t⟩ : Step)).take j) ++ [⟨inv ts j, loadOf L (inv ts j) - atOf up (inv ts j)⟩] := by
                have hjt : j < ts.length := by rw [← hML.out]; exact hjM
                rw [List.take_succ_eq_append_getElem (by simpa using hjt)]
                simp [inv, hjt]
              have hlk : ((ts.map fun t => (⟨t, loadOf L t - atOf up t⟩ : Step)).take j).length = j := by simp [← hML.out]; omega
              generalize inv ts j = t at *
              have HSN := Lib.hid hsn
              generalize ((ts.map fun t => (⟨t, loadOf L t - atOf up t⟩ : Step)).take j) = o at *
              have HLK := Lib.hid hlk
              have hav := HAT.out t
              have HHW := Lib.hid (HH.out.below (HB3.out.trans (hb4.mono hl3)))
              have HVW := Lib.hid (HVU.out.below (HB3.out.trans (hb4.mono hl3)))
              have c1w : wr.cell? ⟨bk, 1, none⟩ = some (.slice (some ⟨b, off, none⟩) k cap) := ((HB3.out.trans (hb4.mono hl3)).cell (p := ⟨bk, 1, none⟩) hlt).trans u1
              have HAA := Lib.hid (atAny HVW.out t)
              generalize hat : atOf up t = at1 at *
              have hneg := neg_wrap (k := at1) ⟨by omega, by omega⟩
              have HAV := Lib.hid hav
              clear ho4 hb4 hsn hlk hav
              go_wp2_with fail
              refine (HAA.out).mono ?_
              rintro e w5 ⟨rfl, hb5⟩
              have HB5 := Lib.hid (HB4.out.trans (hb5.mono hl4))
              have HO5 := Lib.hid (owns_below HO4.out hb5 : OwnSteps w5 w3.heap.size _ o)
              have HH5 := Lib.hid (HHW.out.below hb5)
              have c3w := HH5.out.c3
              have hl5 : w3.heap.size ≤ w5.heap.size := HB5.out.size
              clear hb5 HAA HO4 HHW HVW
              obtain ⟨R2, hR2⟩ : ∃ R, R = w5.heap.size := ⟨_, rfl⟩
              have hlR2 : w3.heap.size ≤ R2 := by rw [hR2]; exact hl5
              have HR2 := Lib.hid hR2
              clear hR2
              go_wp2_with (at_range; refine wp_range _ rfl _ rfl bm L rfl HH5.out.map ?_; intro w6 hr6 hb6 hs6)
              go_frame
              rw [← HR2.out] at hr6
              rw [← HR2.out]
              have HB6 := Lib.hid (HB5.out.trans (hb6.mono hl5))
              have HO6 := Lib.hid (owns_below HO5.out hb6 : OwnSteps w6 w3.heap.size _ o)
              have HR6 := Lib.hid hr6
              clear hb6 hs6 hr6
              go_loopw [11] (fun a wr => ∃ dn left, RangeIs wr bm R2 L left ∧ (dn ++ left).Perm L ∧ a = .int .i64 (loadOf dn t - at1) ∧ Below w3.heap.size w3 wr ∧ OwnSteps wr w3.heap.size u8 o) (fun _ wr => wr.rangeLeft bm R2)
              case atStart => exact ⟨[], L, HR6.out, List.Perm.refl _, by rw [show loadOf [] t = 0 from rfl]; congr 1; omega, HB6.out, HO6.out⟩
              case round =>
                obtain ⟨dm, lft, hRg, hP, rfl, hb7, ho7⟩ := hrel
                have HP7 := Lib.hid hP
                have HB7 := Lib.hid hb7
                have HO7 := Lib.hid ho7
                clear hP hb7 ho7 HB6 HO6 HR6
                go_wp2_with (at_next; refine wp_next _ rfl _ rfl bm R2 L lft rfl hRg ?_ ?_)
                · intro hl
                  subst hl
                  have hPL : dm.Perm L := by simpa using HP7.out
                  have hld := loadOf_perm hPL t
                  have HLD := Lib.hid hld
                  clear hPL hld hRg
                  generalize loadOf dm t = ld at *
                  have HO8 := HO7.out
                  unfold OwnSteps at HO8
                  rw [HLK.out] at HO8
                  have HO8 := Lib.hid HO8
                  have hl7 : w3.heap.size ≤ wr.heap.size := HB7.out.size
                  go_wp2_with (at_builtin; refine wpList_append_own _ rfl (.tmp 84) (.tmp 88) 33 rfl w3.heap.size 38 j0 _ 2 16 Try.underlying33 hj38 hy0 hy1 hy2 rfl (by decide) _ _ _ rfl (by exact HO8.out.alloc _) ⟨wr.heap.size, 0, none⟩ 1 1 [.int .i64 t, .int .i64 (ld - at1)] rfl rfl (news_at _ _ rfl #[.int .i64 t, .int .i64 (ld - at1)] 38) (by simp [Value.oneCell']) (by unfold maxLen; omega) (by omega) (by simp; omega) ?_)
                  intro v' w8 hown8 hgrow hnil
                  have HO9 := Lib.hid hown8
                  have HG := Lib.hid hgrow
                  clear hown8 hnil hgrow
                  go_wp2_with fail
                  go_roundw
                  case rel =>
                    have hB8 : Below w3.heap.size w3 w8 := (HB7.out.alloc hl7 _).grown HG.out (by simp; omega) (fun g hg => ((World.ownsRow.lt HO8.out) g hg).1)
                    refine ⟨j + 1, by omega, by go_num, hB8, ?_⟩
                    rw [HSN.out, ← HLD.out]
                    exact own_step1 HO9.out
                  case measure => simp [intOf]; omega
                · intro s x y w1 hl hR1 hg1 hs1 hen
                  subst hl
                  clear hs1
                  have hsL : s ∈ L := HP7.out.subset (by simp)
                  have hq := HK.out s hsL
                  have hlb := loadOf_bound (L := dm) (fun z hz => HK.out z (HP7.out.subset (List.mem_append_left _ hz))) t
                  have hdl := HP7.out.length_eq
                  simp at hdl
                  have hav := HAV.out
                  have hsnoc := loadOf_snoc dm s t
                  obtain ⟨id, f0, t0, q⟩ := s
                  unfold slotV at hen
                  simp only at hen hq
                  have hw := small_wrap (a := loadOf dm t - at1 + q) (by omega) (by omega)
                  have hB1 := HB7.out.grown hg1 HB7.out.size (fun k hk => by cases hk; exact hlR2)
                  have hO1 : OwnSteps w1 w3.heap.size u8 o := World.ownsRow.kept HO7.out hg1 (.inr (own_ne HO7.out hRg).1)
                  have HO1 := Lib.hid (owns_below hO1 ((Below.refl _ _).alloc (Nat.le_refl _) (.cells #[.int .i64 id, .int .i64 f0, .int .i64 t0, .int .i64 q] 29)) : OwnSteps (w1.alloc (.cells #[.int .i64 id, .int .i64 f0, .int .i64 t0, .int .i64 q] 29)) w3.heap.size u8 o)
                  have HB1 := Lib.hid (hB1.alloc hB1.size (.cells #[.int .i64 id, .int .i64 f0, .int .i64 t0, .int .i64 q] 29))
                  have HM := Lib.hid (show World.rangeLeft _ bm R2 = (x ++ ⟨id, f0, t0, q⟩ :: y).length from hRg.left_eq)
                  have HP1 := Lib.hid (perm_step HP7.out)
                  have HR1 := Lib.hid (hR1.alloc (.cells #[.int .i64 id, .int .i64 f0, .int .i64 t0, .int .i64 q] 29))
                  have hmeas : (x ++ y).length < (x ++ (⟨id, f0, t0, q⟩ : Slot) :: y).length := by simp
                  have HME := Lib.hid hmeas
                  clear hRg hR1 hg1 hB1 hO1 hsL hlb hdl hav hq hmeas
                  cases d1 : decide (f0 ≤ t)
                  · have hx : loadOf (dm ++ [⟨id, f0, t0, q⟩]) t = loadOf dm t := by
                      rw [hsnoc]
                      have : covS t ⟨id, f0, t0, q⟩ = 0 := by unfold covS; rw [if_neg]; rintro ⟨h1, _⟩; simp at d1 h1; omega
                      omega
                    have HX := Lib.hid hx
                    clear hx hsnoc
                    go_wp2_with fail
                    go_roundw
                    case rel => exact ⟨dm ++ [⟨id, f0, t0, q⟩], x ++ y, HR1.out, HP1.out, by rw [HX.out], HB1.out, HO1.out⟩
                    case measure => rw [HR1.out.left_eq, HM.out]; exact HME.out
                  cases d2 : decide (t < t0)
                  · have hx : loadOf (dm ++ [⟨id, f0, t0, q⟩]) t = loadOf dm t := by
                      rw [hsnoc]
                      have : covS t ⟨id, f0, t0, q⟩ = 0 := by unfold covS; rw [if_neg]; rintro ⟨_, h1⟩; simp at d2 h1; omega
                      omega
                    have HX := Lib.hid hx
                    clear hx hsnoc
                    go_wp2_with fail
                    go_roundw
                    case rel => exact ⟨dm ++ [⟨id, f0, t0, q⟩], x ++ y, HR1.out, HP1.out, by rw [HX.out], HB1.out, HO1.out⟩
                    case measure => rw [HR1.out.left_eq, HM.out]; exact HME.out
                  · have hx : loadOf (dm ++ [⟨id, f0, t0, q⟩]) t - at1 = loadOf dm t - at1 + q := by
                      rw [hsnoc]
                      have : covS t ⟨id, f0, t0, q⟩ = q := by unfold covS; rw [if_pos]; simp at d1 d2; exact ⟨d1, d2⟩
                      omega
                    have HX := Lib.hid hx
                    clear hx hsnoc
                    go_wp2_with fail
                    go_roundw
                    case rel => exact ⟨dm ++ [⟨id, f0, t0, q⟩], x ++ y, HR1.out, HP1.out, by rw [HX.out], HB1.out, HO1.out⟩
                    case measure => rw [HR1.out.left_eq, HM.out]; exact HME.out
            · obtain rfl : j = M := by omega
              have hd3 : decide ((j : Int) < j) = false := by simp
              have hall : ((ts.map fun t => (⟨t, loadOf L t - atOf up t⟩ : Step)).take j) = ts.map fun t => (⟨t, loadOf L t - atOf up t⟩ : Step) := by rw [List.take_of_length_le]; simp [← hML.out]
              rw [hall] at ho4
              have HO5 := Lib.hid ho4
              clear ho4 hall hb4
              go_wp2_with fail
              go_ret
              exact ⟨⟨_, ts, rfl, HMEM.out, HO5.out.mono hl3⟩, HB3.out.trans (HB4.out.mono hl3)⟩
        · intro s x y w1 hl hR1 hg1 hs1 hen
          subst hl
          clear hs1
          obtain ⟨id, f0, t0, q⟩ := s
          unfold slotV at hen
          simp only at hen
          have hB1 := HBb.out.grown hg1 HBb.out.size (fun k hk => by cases hk; exact hlR)
          have HM := Lib.hid (show World.rangeLeft _ bm R = (x ++ ⟨id, f0, t0, q⟩ :: y).length from hRg.left_eq)
          have HP1 := Lib.hid (perm_step HP.out)
          have hown1 : w1.ownsRow w.heap.size 3 1 u3 (stepT up ++ slotT dn).length (flatI (stepT up ++ slotT dn)) := World.ownsRow.kept HOw.out hg1 (.inr (own_ne HOw.out hRg).1)
          have hne1 := own_ne hown1 hR1
          have HNE := Lib.hid hne1
          have hl1 : w.heap.size ≤ w1.heap.size := hB1.size
          have hlen : (stepT up ++ slotT dn).length ≤ 40000 := by
            rw [List.length_append, length_slotT, HLUP.out]
            have := HDL.out
            simp at this
            omega
          have HB1 := Lib.hid hB1
          have HR1 := Lib.hid hR1
          clear hRg hR1 hg1 hne1 hB1
          generalize hlst : stepT up ++ slotT dn = lst at *
          have HLST := Lib.hid hlst
          have HOW := Lib.hid hown1
          clear hlst hown1
          generalize lst.length = ln at *
          go_wp2_with (at_builtin; refine wpList_append_own _ rfl (.tmp 38) (.tmp 43) 42 rfl w.heap.size 3 i0 _ 1 8 Try.underlying42 hi hz0 hz1 hz2 rfl (by decide) _ _ _ rfl (by exact (HOW.out.alloc _).alloc _) ⟨w1.heap.size + 1, 0, none⟩ 2 2 [.int .i64 f0, .int .i64 t0] rfl rfl (news_at _ _ (by simp) #[.int .i64 f0, .int .i64 t0] 3) (by simp [Value.oneCell']) (by unfold maxLen; omega) (by omega) (by simp; omega) ?_)
          intro v' w3 hown3 hgrow hnil
          have HO3 := Lib.hid hown3
          have HG := Lib.hid hgrow
          clear hown3 hnil hgrow
          go_wp2_with fail
          go_roundw
          case rel =>
            have hB3 : Below w.heap.size w w3 := ((HB1.out.alloc hl1 _).alloc (by simp; omega) _).grown HG.out (by simp; omega) (fun g hg => ((World.ownsRow.lt HOW.out) g hg).1)
            have hR3 : RangeIs w3 bm R L (x ++ y) := ((HR1.out.alloc _).alloc _).grown HG.out (Ne.symm HNE.out.2) (Ne.symm HNE.out.1)
            refine ⟨dn ++ [⟨id, f0, t0, q⟩], x ++ y, hR3, HP1.out, hB3, ?_⟩
            rw [slotT_snoc, ← List.append_assoc, HLST.out]
            exact own_int2 HO3.out
          case measure =>
            have hR3 : RangeIs w3 bm R L (x ++ y) := ((HR1.out.alloc _).alloc _).grown HG.out (Ne.symm HNE.out.2) (Ne.symm HNE.out.1)
            rw [hR3.left_eq, HM.out]
            simp

end Go.Proofs.Ytjknmnmilladlaa
