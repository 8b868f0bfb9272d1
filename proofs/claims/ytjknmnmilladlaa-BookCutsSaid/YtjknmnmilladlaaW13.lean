/-
  Walks: the book's Take. (Printed by gen13.py.)
-/
import Derived.Test.YtjknmnmilladlaaW11
namespace Go.Proofs.Ytjknmnmilladlaa
open Go.RowKit

theorem takeNil (w : World) (s : Slot) : Calls Try.prog 11 #[.pointer none, slotV s] w fun e w' => e = .returned (.int .i64 1) ∧ Below w.heap.size w w' := by
  obtain ⟨id, frm, to, k⟩ := s
  unfold slotV
  simp only
  go_enter Try.func11, Try.ntmps11
  go_wp2_with fail
  go_ret
  exact ⟨rfl, (Below.refl _ _).alloc (Nat.le_refl _) _⟩

/-- What a look-up hands out. -/
theorem look_any (bm : Nat) (L : List Slot) (id : Int) :
    ∃ a0 a1 a2 a3 ab, (∀ w1, MapIs w1 bm L → (Instr.lookup 72 (.map (some bm)) (.int .i64 id) true).run Try.prog w1 = .ok (.tuple #[.agg #[.int .i64 a0, .int .i64 a1, .int .i64 a2, .int .i64 a3], .bool ab]) w1) ∧
      ab = L.any (fun x => decide (x.id = id)) ∧ (ab = true → ⟨a0, a1, a2, a3⟩ ∈ L ∧ a0 = id) ∧ (ab = false → a0 = 0 ∧ a1 = 0 ∧ a2 = 0 ∧ a3 = 0) := by
  by_cases hx : ∃ x ∈ L, x.id = id
  · obtain ⟨x, hx, he⟩ := hx
    refine ⟨x.id, x.frm, x.to, x.nodes, true, fun w1 h1 => ?_, ?_, fun _ => ⟨hx, he⟩, fun e => by cases e⟩
    · have := h1.look_yes hx true
      rw [he] at this ⊢
      rw [this]
      unfold slotV
      rw [he]
      rfl
    · symm
      rw [List.any_eq_true]
      exact ⟨x, hx, by simpa using he⟩
  · refine ⟨0, 0, 0, 0, false, fun w1 h1 => ?_, ?_, fun e => (by cases e), fun _ => ⟨rfl, rfl, rfl, rfl⟩⟩
    · exact h1.look_no (id := id) (fun s hs he => hx ⟨s, hs, he⟩) true
    · symm
      rw [Bool.eq_false_iff]
      intro he
      rw [List.any_eq_true] at he
      obtain ⟨x, hx1, hx2⟩ := he
      exact hx ⟨x, hx1, by simpa using hx2⟩

set_option maxHeartbeats 4000000 in
set_option maxRecDepth 100000 in
theorem takeA {w : World} {bk bm : Nat} {n : Int} {up fr : List Step} {L : List Slot} (h : BookIs w bk bm n up fr L) (s : Slot) (hr : rightOf n s = false) :
    Calls Try.prog 11 #[.pointer (some ⟨bk, 0, none⟩), slotV s] w fun e w' => e = .returned (.int .i64 2) ∧ Below w.heap.size w w' := by
  have HR := fun (w1 : World) (h1 : BookIs w1 bk bm n up fr L) => rightAny h1 s
  rw [hr] at HR
  obtain ⟨id, frm, to, k⟩ := s
  unfold slotV at HR ⊢
  simp only at HR ⊢
  have c3 := h.c3
  have hlt := h.lt
  have hne : w.heap.size ≠ bk := by omega
  obtain ⟨a0, a1, a2, a3, ab, hlook, hab, _, _⟩ := look_any bm L id
  have l1 := hlook _ ((h.alloc (.cells #[.int .i64 id, .int .i64 frm, .int .i64 to, .int .i64 k] 29)).drew).map
  have l2 := fun o => hlook _ (((h.alloc (.cells #[.int .i64 id, .int .i64 frm, .int .i64 to, .int .i64 k] 29)).alloc o).drew).map
  have HRR := Lib.hid HR
  have HH := Lib.hid h
  clear hlook h HR hr
  go_enter Try.func11, Try.ntmps11
  go_wp2_with fail
  go_region
  go_wp2_with fail
  refine (HRR.out _ (((HH.out.alloc _).alloc _).drew)).mono ?_
  rintro e w1 ⟨rfl, hb1⟩
  have B1 := Lib.hid ((((Below.refl w.heap.size w).alloc (Nat.le_refl _) _).alloc (by simp) _).drew.trans (hb1.mono (by simp; omega)))
  have k0 := cell_thru hb1 (cell_old _ (cell_new w _ 29 0 rfl))
  have k1 := cell_thru hb1 (cell_old _ (cell_new w _ 29 1 rfl))
  have k2 := cell_thru hb1 (cell_old _ (cell_new w _ 29 2 rfl))
  have k3 := cell_thru hb1 (cell_old _ (cell_new w _ 29 3 rfl))
  have k4 := cell_thru hb1 (cell_old _ (cell_old _ c3))
  clear hb1
  go_wp2_with fail
  go_ret
  exact ⟨rfl, B1.out⟩

set_option maxHeartbeats 4000000 in
set_option maxRecDepth 100000 in
theorem takeB {w : World} {bk bm : Nat} {n : Int} {up fr : List Step} {L : List Slot} (h : BookIs w bk bm n up fr L) (s : Slot) (hr : rightOf n s = true) (hh : L.any (fun x => decide (x.id = s.id)) = true) :
    Calls Try.prog 11 #[.pointer (some ⟨bk, 0, none⟩), slotV s] w fun e w' => e = .returned (.int .i64 51) ∧ Below w.heap.size w w' := by
  have HR := fun (w1 : World) (h1 : BookIs w1 bk bm n up fr L) => rightAny h1 s
  rw [hr] at HR
  obtain ⟨id, frm, to, k⟩ := s
  unfold slotV at HR ⊢
  simp only at HR hh ⊢
  have c3 := h.c3
  have hlt := h.lt
  have hne : w.heap.size ≠ bk := by omega
  obtain ⟨a0, a1, a2, a3, ab, hlook, hab, _, _⟩ := look_any bm L id
  have l1 := hlook _ ((h.alloc (.cells #[.int .i64 id, .int .i64 frm, .int .i64 to, .int .i64 k] 29)).drew).map
  have l2 := fun o => hlook _ (((h.alloc (.cells #[.int .i64 id, .int .i64 frm, .int .i64 to, .int .i64 k] 29)).alloc o).drew).map
  rw [hh] at hab
  subst hab
  clear hh
  have HRR := Lib.hid HR
  have HH := Lib.hid h
  clear hlook h HR hr
  go_enter Try.func11, Try.ntmps11
  go_wp2_with fail
  go_region
  go_wp2_with fail
  refine (HRR.out _ (((HH.out.alloc _).alloc _).drew)).mono ?_
  rintro e w1 ⟨rfl, hb1⟩
  have B1 := Lib.hid ((((Below.refl w.heap.size w).alloc (Nat.le_refl _) _).alloc (by simp) _).drew.trans (hb1.mono (by simp; omega)))
  have k0 := cell_thru hb1 (cell_old _ (cell_new w _ 29 0 rfl))
  have k1 := cell_thru hb1 (cell_old _ (cell_new w _ 29 1 rfl))
  have k2 := cell_thru hb1 (cell_old _ (cell_new w _ 29 2 rfl))
  have k3 := cell_thru hb1 (cell_old _ (cell_new w _ 29 3 rfl))
  have k4 := cell_thru hb1 (cell_old _ (cell_old _ c3))
  clear hb1
  go_wp2_with fail
  go_ret
  exact ⟨rfl, B1.out⟩

set_option maxHeartbeats 4000000 in
set_option maxRecDepth 100000 in
theorem takeC {w : World} {bk bm : Nat} {n : Int} {up fr : List Step} {L : List Slot} (h : BookIs w bk bm n up fr L) (s : Slot) (hr : rightOf n s = true) (hh : L.any (fun x => decide (x.id = s.id)) = false) (hl : 9000 ≤ L.length) :
    Calls Try.prog 11 #[.pointer (some ⟨bk, 0, none⟩), slotV s] w fun e w' => e = .returned (.int .i64 3) ∧ Below w.heap.size w w' := by
  have HR := fun (w1 : World) (h1 : BookIs w1 bk bm n up fr L) => rightAny h1 s
  rw [hr] at HR
  obtain ⟨id, frm, to, k⟩ := s
  unfold slotV at HR ⊢
  simp only at HR hh ⊢
  have c3 := h.c3
  have hlt := h.lt
  have hne : w.heap.size ≠ bk := by omega
  obtain ⟨a0, a1, a2, a3, ab, hlook, hab, _, _⟩ := look_any bm L id
  have l1 := hlook _ ((h.alloc (.cells #[.int .i64 id, .int .i64 frm, .int .i64 to, .int .i64 k] 29)).drew).map
  have l2 := fun o => hlook _ (((h.alloc (.cells #[.int .i64 id, .int .i64 frm, .int .i64 to, .int .i64 k] 29)).alloc o).drew).map
  rw [hh] at hab
  subst hab
  clear hh
  have hd : decide (9000 ≤ (L.length : Int)) = true := by simp; omega
  clear hl
  have HRR := Lib.hid HR
  have HH := Lib.hid h
  clear hlook h HR hr
  go_enter Try.func11, Try.ntmps11
  go_wp2_with fail
  go_region
  go_wp2_with fail
  refine (HRR.out _ (((HH.out.alloc _).alloc _).drew)).mono ?_
  rintro e w1 ⟨rfl, hb1⟩
  have B1 := Lib.hid ((((Below.refl w.heap.size w).alloc (Nat.le_refl _) _).alloc (by simp) _).drew.trans (hb1.mono (by simp; omega)))
  have k0 := cell_thru hb1 (cell_old _ (cell_new w _ 29 0 rfl))
  have k1 := cell_thru hb1 (cell_old _ (cell_new w _ 29 1 rfl))
  have k2 := cell_thru hb1 (cell_old _ (cell_new w _ 29 2 rfl))
  have k3 := cell_thru hb1 (cell_old _ (cell_new w _ 29 3 rfl))
  have k4 := cell_thru hb1 (cell_old _ (cell_old _ c3))
  clear hb1
  go_wp2_with (at_len; refine wp_len _ rfl _ rfl bm L rfl (HH.out.below B1.out).map ?_)
  go_ret
  exact ⟨rfl, B1.out⟩

set_option maxHeartbeats 4000000 in
set_option maxRecDepth 100000 in
theorem takeD {w : World} {bk bm : Nat} {n : Int} {up fr : List Step} {L : List Slot} (h : BookIs w bk bm n up fr L) (s : Slot) (hr : rightOf n s = true) (hh : L.any (fun x => decide (x.id = s.id)) = false) (hl : L.length < 9000) (he : addErr fr s.frm s.to (-s.nodes) ≠ 0) (hk : -10000 ≤ s.nodes ∧ s.nodes ≤ 10000) :
    Calls Try.prog 11 #[.pointer (some ⟨bk, 0, none⟩), slotV s] w fun e w' => e = .returned (.int .i64 (addErr fr s.frm s.to (-s.nodes))) ∧ Below w.heap.size w w' := by
  have HR := fun (w1 : World) (h1 : BookIs w1 bk bm n up fr L) => rightAny h1 s
  rw [hr] at HR
  have HL := Lib.hid (fun (w1 : World) (h1 : BookIs w1 bk bm n up fr L) => layNo h1 s hk he)
  generalize addErr fr s.frm s.to (-s.nodes) = ee at *
  clear hk he
  obtain ⟨id, frm, to, k⟩ := s
  unfold slotV at HR HL ⊢
  simp only at HR HL hh ⊢
  have c3 := h.c3
  have hlt := h.lt
  have hne : w.heap.size ≠ bk := by omega
  obtain ⟨a0, a1, a2, a3, ab, hlook, hab, _, _⟩ := look_any bm L id
  have l1 := hlook _ ((h.alloc (.cells #[.int .i64 id, .int .i64 frm, .int .i64 to, .int .i64 k] 29)).drew).map
  have l2 := fun o => hlook _ (((h.alloc (.cells #[.int .i64 id, .int .i64 frm, .int .i64 to, .int .i64 k] 29)).alloc o).drew).map
  rw [hh] at hab
  subst hab
  clear hh
  have hd : decide (9000 ≤ (L.length : Int)) = false := by simp; omega
  clear hl
  have HRR := Lib.hid HR
  have HH := Lib.hid h
  clear hlook h HR hr
  go_enter Try.func11, Try.ntmps11
  go_wp2_with fail
  go_region
  go_wp2_with fail
  refine (HRR.out _ (((HH.out.alloc _).alloc _).drew)).mono ?_
  rintro e w1 ⟨rfl, hb1⟩
  have B1 := Lib.hid ((((Below.refl w.heap.size w).alloc (Nat.le_refl _) _).alloc (by simp) _).drew.trans (hb1.mono (by simp; omega)))
  have k0 := cell_thru hb1 (cell_old _ (cell_new w _ 29 0 rfl))
  have k1 := cell_thru hb1 (cell_old _ (cell_new w _ 29 1 rfl))
  have k2 := cell_thru hb1 (cell_old _ (cell_new w _ 29 2 rfl))
  have k3 := cell_thru hb1 (cell_old _ (cell_new w _ 29 3 rfl))
  have k4 := cell_thru hb1 (cell_old _ (cell_old _ c3))
  clear hb1
  go_wp2_with (at_len; refine wp_len _ rfl _ rfl bm L rfl (HH.out.below B1.out).map ?_)
  refine (HL.out _ (HH.out.below B1.out)).mono ?_
  rintro e w2 ⟨rfl, hb2⟩
  have HB2 := Lib.hid hb2
  clear hb2
  go_wp2_with fail
  go_ret
  exact ⟨rfl, B1.out.trans (HB2.out.mono B1.out.size)⟩

set_option maxHeartbeats 4000000 in
set_option maxRecDepth 100000 in
theorem takeE {w : World} {bk bm : Nat} {n : Int} {up fr : List Step} {L : List Slot} (h : BookIs w bk bm n up fr L) (s : Slot) (hr : rightOf n s = true) (hh : L.any (fun x => decide (x.id = s.id)) = false) (hl : L.length < 9000) (he : addErr fr s.frm s.to (-s.nodes) = 0) (hk : -10000 ≤ s.nodes ∧ s.nodes ≤ 10000) :
    Calls Try.prog 11 #[.pointer (some ⟨bk, 0, none⟩), slotV s] w fun e w' => e = .returned (.int .i64 0) ∧ LayPost w bk bm n up (addRes fr s.frm s.to (-s.nodes)) (L ++ [s]) w' := by
  have HR := fun (w1 : World) (h1 : BookIs w1 bk bm n up fr L) => rightAny h1 s
  rw [hr] at HR
  have HL := Lib.hid (fun (w1 : World) (h1 : BookIs w1 bk bm n up fr L) => layYes h1 s hk he (fun x hx hxe => by rw [Bool.eq_false_iff] at hh; exact hh (List.any_eq_true.2 ⟨x, hx, by simpa using hxe⟩)))
  generalize addRes fr s.frm s.to (-s.nodes) = rr at *
  generalize hL2 : L ++ [s] = L2 at *
  have HL2 := Lib.hid hL2
  clear hk he hL2
  obtain ⟨id, frm, to, k⟩ := s
  unfold slotV at HR HL ⊢
  simp only at HR HL hh ⊢
  have c3 := h.c3
  have hlt := h.lt
  have hne : w.heap.size ≠ bk := by omega
  obtain ⟨a0, a1, a2, a3, ab, hlook, hab, _, _⟩ := look_any bm L id
  have l1 := hlook _ ((h.alloc (.cells #[.int .i64 id, .int .i64 frm, .int .i64 to, .int .i64 k] 29)).drew).map
  have l2 := fun o => hlook _ (((h.alloc (.cells #[.int .i64 id, .int .i64 frm, .int .i64 to, .int .i64 k] 29)).alloc o).drew).map
  rw [hh] at hab
  subst hab
  clear hh
  have hd : decide (9000 ≤ (L.length : Int)) = false := by simp; omega
  clear hl
  have HRR := Lib.hid HR
  have HH := Lib.hid h
  clear hlook h HR hr
  go_enter Try.func11, Try.ntmps11
  go_wp2_with fail
  go_region
  go_wp2_with fail
  refine (HRR.out _ (((HH.out.alloc _).alloc _).drew)).mono ?_
  rintro e w1 ⟨rfl, hb1⟩
  have B1 := Lib.hid ((((Below.refl w.heap.size w).alloc (Nat.le_refl _) _).alloc (by simp) _).drew.trans (hb1.mono (by simp; omega)))
  have k0 := cell_thru hb1 (cell_old _ (cell_new w _ 29 0 rfl))
  have k1 := cell_thru hb1 (cell_old _ (cell_new w _ 29 1 rfl))
  have k2 := cell_thru hb1 (cell_old _ (cell_new w _ 29 2 rfl))
  have k3 := cell_thru hb1 (cell_old _ (cell_new w _ 29 3 rfl))
  have k4 := cell_thru hb1 (cell_old _ (cell_old _ c3))
  clear hb1
  go_wp2_with (at_len; refine wp_len _ rfl _ rfl bm L rfl (HH.out.below B1.out).map ?_)
  refine (HL.out _ (HH.out.below B1.out)).mono ?_
  rintro e w2 ⟨rfl, hb2⟩
  have HB2 := Lib.hid hb2
  clear hb2
  go_wp2_with fail
  go_ret
  exact ⟨rfl, HB2.out.1, (Kept.of_below B1.out).trans HB2.out.2.1, fun X hX hA => HB2.out.2.2 X (Nat.lt_of_lt_of_le hX B1.out.size) (hA.below B1.out hlt)⟩

end Go.Proofs.Ytjknmnmilladlaa
